/- The texts Prov1, CompI, Prov2, Prov3, Prov4, Prov5, Prov6, Prov7, Prov8, Evr2, Evr3, Evr4, Evr5, Evr6, Ref7a, PoolP, Awake7, ProvP, OwnP, SortI, IdsV, SetP, Ref1, IdsM, Evr7, DiffP, S39, Diff1, Diff2, Diff3, Ref3a of the proof, joined. Each says at its theorems what it proves. -/
import Derived.Test.YtlmloohlmlahfaaGreatDoorJ2
import Derived.Sort.OwnSortedInts
import Derived.Shelf.Slices.In.SortNone
set_option linter.unusedSimpArgs false
set_option linter.unusedVariables false
namespace Go.Proofs.YtlmloohlmlahfaaGreatDoor
section
open Go Go.RowKit
namespace Sv
attribute [local irreducible] SW SO Bs
set_option maxHeartbeats 1000000
set_option maxRecDepth 100000
theorem Q37:As Tryz.prog 10:=Az Tryz.func10 (by kernel_rfl) rfl
theorem Va:As Tryz.prog 44:=Az Tryz.func44 (by kernel_rfl) rfl
structure OfferT where
 id:Int
 own:Bool
 op:Int
 evr:List UInt8
 deriving Inhabited
noncomputable def I9 (o:OfferT):AV:=.agg [.int .i64 o.id,.bool o.own,.int .i64 o.op,.str o.evr]
def Cm (ps:List (List UInt8 × OfferT)) (s:List UInt8):List OfferT:=(ps.filter fun q=>decide (q.1=s)).map fun q=>q.2
noncomputable def Bf (ps:List (List UInt8 × OfferT)) (s:List UInt8):List AV:=(Cm ps s).map I9
theorem Z5 (ps:List (List UInt8 × OfferT)) (s:List UInt8) (o:OfferT):D8 (Bf ps) s (Bf ps s++[I9 o])=Bf (ps++[(s,o)]):=by
 funext t
 unfold D8 Bf Cm
 rw[List.filter_append,List.map_append,List.map_append]
 by_cases h:t=s
 ·subst h;rw[if_pos rfl];simp
 ·rw[if_neg h]
  have:¬s=t:=fun q=>h q.symm
  simp[this]
theorem Qh (ps:List (List UInt8 × OfferT)) (s:List UInt8):(Bf ps s).length≤ps.length:=by
 unfold Bf Cm
 rw[List.length_map,List.length_map];exact List.length_filter_le _ _
def Ee (i:Nat) (p:PkgT) (j:Nat):List (List UInt8 × OfferT):=(p.name,⟨i,true,2,p.evr⟩)::(p.provides.take j).map fun d=>(d.name,⟨i,false,d.op,d.evr⟩)
def D1 (i:Nat) (p:PkgT) (j:Nat):List (List UInt8 × OfferT):=Ee i p p.provides.length++(p.files.take j).map fun f=>(f,⟨i,false,0,[]⟩)
def Fo (i:Nat) (p:PkgT):List (List UInt8 × OfferT):=D1 i p p.files.length
def Bu (l:List (PkgT × Int)) (n:Nat):List (List UInt8 × OfferT):=(List.range n).flatMap fun i=>Fo i (nth l i).1
theorem Q90 {i:Nat} {p:PkgT} {j:Nat} (h:j < p.provides.length):Ee i p (j+1)=Ee i p j++[((nth p.provides j).name,⟨i,false,(nth p.provides j).op,(nth p.provides j).evr⟩)]:=by
 unfold Ee
 rw[List.take_add_one,List.getElem?_eq_getElem h,List.map_append]
 simp[nth,h]
theorem Q9z {i:Nat} {p:PkgT} {j:Nat} (h:j < p.files.length):D1 i p (j+1)=D1 i p j++[(nth p.files j,⟨i,false,0,[]⟩)]:=by
 unfold D1
 rw[List.take_add_one,List.getElem?_eq_getElem h,List.map_append,List.append_assoc]
 simp[nth,h]
theorem Yr {l:List (PkgT × Int)} {n:Nat}:Bu l (n+1)=Bu l n++Fo n (nth l n).1:=by
 unfold Bu
 rw[List.range_succ,List.flatMap_append];simp
theorem P6 {i:Nat} {p:PkgT} {j:Nat}:(Ee i p j).length≤1+p.provides.length:=by
 unfold Ee;simp only[List.length_cons,List.length_map,List.length_take];omega
theorem P5 {i:Nat} {p:PkgT} {j:Nat}:(D1 i p j).length≤1+p.provides.length+p.files.length:=by
 have:=P6 (i:=i) (p:=p) (j:=p.provides.length)
 unfold D1;simp only[List.length_append,List.length_map,List.length_take];omega
theorem Ys {l:List (PkgT × Int)} (hs:∀i,i < l.length→(nth l i).1.size≤4194304):∀n,n≤l.length→(Bu l n).length≤n*8388609:=by
 intro n
 induction n with
 |zero=>intro _;exact Nat.le_refl _
 |succ n ih =>
  intro h
  have h1:=ih (by omega)
  have h2:=P5 (i:=n) (p:=(nth l n).1) (j:=(nth l n).1.files.length)
  have h3:=(nth l n).1.sizes
  have h4:=hs n (by omega)
  have h5:=Dw (nth l n).1.provides
  have h6:=J7 (nth l n).1.files
  have h7:argsSize (nth l n).1.provides≤(nth l n).1.depSize:=by unfold PkgT.depSize;omega
  rw[Yr,List.length_append]
  unfold Fo
  omega
noncomputable def Be (st:PoolT):AV:=.agg [.int .i64 st.kind,.int .i64 (st.all.length:Int),.smap (.slice none 0 0) (fun s => .row 4 (Bf (Bu st.all st.all.length) s).length (fun i=>(Bf (Bu st.all st.all.length) s).getD i Br))]
theorem Tq (kind count : Int) (ps : List (List UInt8 × OfferT)) (s : List UInt8) (o : OfferT) (hl : (Bf ps s).length ≤ 2147483648) :
  Gp Tryz.prog 44 [(.str s),(.agg [(.int .i64 o.id),(.bool o.own),(.int .i64 o.op),(.str o.evr)]),(.ptr 0 0)] [(0,(.row [(.ptr 1 0)] 32)),(1,(.row [(.int .i64 kind),(.int .i64 count),(.map 2)] 91)),(2,(.mm (Bf ps) none 93 4))] 3 (.tup []) [(0,(.row [(.ptr 1 0)] 32)),(1,(.row [(.int .i64 kind),(.int .i64 count),(.map 2)] 91)),(2,(.mm (Bf (ps++[(s,o)])) none 93 4))]:=by
 refine Lt [] Tryz.func44 rfl Tryz.ntmps44 rfl rfl (by kernel_rfl) (by kernel_rfl) (by kernel_rfl) (fun B F hF=>?_)
 refine Ab [] [0,2,4] ?_
 refine Sa 4 (y:=⟨[(0,(.str s)),(2,(.ptr 0 0)),(4,(.fp (.agg [(.int .i64 o.id),(.bool o.own),(.int .i64 o.op),(.str o.evr)])))],[(0,(.row [(.ptr 1 0)] 32)),(1,(.row [(.int .i64 kind),(.int .i64 count),(.map 2)] 91)),(2,(.mm (Bf ps) none 93 4))],4⟩) (by kernel_rfl) ?_
 refine Kk (by kernel_rfl) (fun F1 hF1=>?_)
 refine Cy false 1 (lsD 15 [0,1,2,3,4,5,6,7,8,9,10,11,12,13]) ⟨[(8,(.map 2)),(9,(.str s)),(18,(.own 4))],[(0,(.row [(.ptr 1 0)] 32)),(1,(.row [(.int .i64 kind),(.int .i64 count),(.map 2)] 91)),(2,(.mm (Bf ps) (some s) 93 4)),(4,(.grow (((Bf ps) s)++([(.agg [(.int .i64 o.id),(.bool o.own),(.int .i64 o.op),(.str o.evr)])]:List AV)) 93 4)),(5,(.row [(.int .i64 o.id),(.bool o.own),(.int .i64 o.op),(.str o.evr)] 93))],6⟩ ?_ (fun m1_1=>?_)
 ·refine Ha (fuel:=0) 14 (by kernel_rfl) ?_
  refine Dt (fuel:=0) 14 rfl ?_
  refine Sd (b:=2) (c:=4) (s:=s) (s1:=s) (y:=⟨[(8,(.map 2)),(9,(.str s)),(18,(.own 4))],[(0,(.row [(.ptr 1 0)] 32)),(1,(.row [(.int .i64 kind),(.int .i64 count),(.map 2)] 91)),(2,(.mm (D8 (Bf ps) s (((Bf ps) s)++([(.agg [(.int .i64 o.id),(.bool o.own),(.int .i64 o.op),(.str o.evr)])]:List AV))) none 93 4)),(5,(.row [(.int .i64 o.id),(.bool o.own),(.int .i64 o.op),(.str o.evr)] 93))],6⟩) (by kernel_rfl) (by kernel_rfl) (by kernel_rfl) (by kernel_rfl) (by kernel_rfl) rfl Tryz.underlying89 Tryz.underlying9 (by kernel_rfl) rfl ?_
  refine Cd ⟨rfl,?_⟩
  refine A9 [] ?_
  refine Ho (by kernel_rfl) ?_
  refine Er (.inr rfl) (al:=[]) (by kernel_rfl) ?_ ((by kernel_rfl:Dr 3 _=some [(0,(.row [(.ptr 1 0)] 32)),(1,(.row [(.int .i64 kind),(.int .i64 count),(.map 2)] 91)),(2,(.mm (D8 (Bf ps) s (((Bf ps) s)++([(.agg [(.int .i64 o.id),(.bool o.own),(.int .i64 o.op),(.str o.evr)])]:List AV))) none 93 4))]).trans ?_)
  ·rfl
  ·rw[show(D8 (Bf ps) s (((Bf ps) s)++([(.agg [(.int .i64 o.id),(.bool o.own),(.int .i64 o.op),(.str o.evr)])]:List AV)))=Bf (ps++[(s,o)]) from Z5 ps s o]<;>kernel_rfl
 refine Cy false 1 (lsD 15 [0,1,2,3,4,5,6,7,8,9,10,11,12,13]) ⟨[(8,(.map 2)),(9,(.str s)),(18,(.own 5))],[(0,(.row [(.ptr 1 0)] 32)),(1,(.row [(.int .i64 kind),(.int .i64 count),(.map 2)] 91)),(2,(.mm (Bf ps) (some s) 93 4)),(4,(.row [(.int .i64 o.id),(.bool o.own),(.int .i64 o.op),(.str o.evr)] 93)),(5,(.grow (((Bf ps) s)++([(.agg [(.int .i64 o.id),(.bool o.own),(.int .i64 o.op),(.str o.evr)])]:List AV)) 93 4))],6⟩ ?_ (fun m1_2=>?_)
 ·refine Ha (fuel:=0) 14 (by kernel_rfl) ?_
  refine Dt (fuel:=0) 14 rfl ?_
  refine Sd (b:=2) (c:=5) (s:=s) (s1:=s) (y:=⟨[(8,(.map 2)),(9,(.str s)),(18,(.own 5))],[(0,(.row [(.ptr 1 0)] 32)),(1,(.row [(.int .i64 kind),(.int .i64 count),(.map 2)] 91)),(2,(.mm (D8 (Bf ps) s (((Bf ps) s)++([(.agg [(.int .i64 o.id),(.bool o.own),(.int .i64 o.op),(.str o.evr)])]:List AV))) none 93 4)),(4,(.row [(.int .i64 o.id),(.bool o.own),(.int .i64 o.op),(.str o.evr)] 93))],6⟩) (by kernel_rfl) (by kernel_rfl) (by kernel_rfl) (by kernel_rfl) (by kernel_rfl) rfl Tryz.underlying89 Tryz.underlying9 (by kernel_rfl) rfl ?_
  refine Cd ⟨rfl,?_⟩
  refine A9 [] ?_
  refine Ho (by kernel_rfl) ?_
  refine Er (.inr rfl) (al:=[]) (by kernel_rfl) ?_ ((by kernel_rfl:Dr 3 _=some [(0,(.row [(.ptr 1 0)] 32)),(1,(.row [(.int .i64 kind),(.int .i64 count),(.map 2)] 91)),(2,(.mm (D8 (Bf ps) s (((Bf ps) s)++([(.agg [(.int .i64 o.id),(.bool o.own),(.int .i64 o.op),(.str o.evr)])]:List AV))) none 93 4))]).trans ?_)
  ·rfl
  ·rw[show(D8 (Bf ps) s (((Bf ps) s)++([(.agg [(.int .i64 o.id),(.bool o.own),(.int .i64 o.op),(.str o.evr)])]:List AV)))=Bf (ps++[(s,o)]) from Z5 ps s o]<;>kernel_rfl
 refine Cy false 2 (lsD 15 [0,1,2,3,4,5,6,7,8,9,10,11,12]) ⟨[(8,(.map 2)),(9,(.str s)),(15,(.own 4)),(17,(.sl 5 0 1 1 false))],[(0,(.row [(.ptr 1 0)] 32)),(1,(.row [(.int .i64 kind),(.int .i64 count),(.map 2)] 91)),(2,(.mm (Bf ps) (some s) 93 4)),(4,(.grow ((Bf ps) s) 93 4)),(5,(.row [(.int .i64 o.id),(.bool o.own),(.int .i64 o.op),(.str o.evr)] 93))],6⟩ ?_ (fun m1_3=>?_)
 ·refine Dg (fuel:=1) 13 [] (hold (p:=((((Bf ps) s).length+1)*40≤140737488355328)) (by omega)) ?_
  refine A9 [8,9,18] ?_
  exact Bl m1_1
 refine Cy false 2 (lsD 15 [0,1,2,3,4,5,6,7,8,9,10,11,12]) ⟨[(8,(.map 2)),(9,(.str s)),(15,(.own 5)),(17,(.sl 4 0 1 1 false))],[(0,(.row [(.ptr 1 0)] 32)),(1,(.row [(.int .i64 kind),(.int .i64 count),(.map 2)] 91)),(2,(.mm (Bf ps) (some s) 93 4)),(4,(.row [(.int .i64 o.id),(.bool o.own),(.int .i64 o.op),(.str o.evr)] 93)),(5,(.grow ((Bf ps) s) 93 4))],6⟩ ?_ (fun m1_4=>?_)
 ·refine Dg (fuel:=1) 13 [] (hold (p:=((((Bf ps) s).length+1)*40≤140737488355328)) (by omega)) ?_
  refine A9 [8,9,18] ?_
  exact Bl m1_2
 refine Cy false 2 (lsD 15 [0,1,2,4,5,6,7,8,9,10,11,12,13]) ⟨[(7,(.ptr 1 2)),(9,(.str s)),(18,(.own 4))],[(0,(.row [(.ptr 1 0)] 32)),(1,(.row [(.int .i64 kind),(.int .i64 count),(.map 2)] 91)),(2,(.mm (Bf ps) (some s) 93 4)),(4,(.grow (((Bf ps) s)++([(.agg [(.int .i64 o.id),(.bool o.own),(.int .i64 o.op),(.str o.evr)])]:List AV)) 93 4)),(5,(.row [(.int .i64 o.id),(.bool o.own),(.int .i64 o.op),(.str o.evr)] 93))],6⟩ ?_ (fun m1_5=>?_)
 ·refine Dg (fuel:=1) 3 [] Bc ?_
  refine A9 [8,9,18] ?_
  exact Bl m1_1
 refine Cy false 2 (lsD 15 [0,1,2,4,5,6,7,8,9,10,11,12,13]) ⟨[(7,(.ptr 1 2)),(9,(.str s)),(18,(.own 5))],[(0,(.row [(.ptr 1 0)] 32)),(1,(.row [(.int .i64 kind),(.int .i64 count),(.map 2)] 91)),(2,(.mm (Bf ps) (some s) 93 4)),(4,(.row [(.int .i64 o.id),(.bool o.own),(.int .i64 o.op),(.str o.evr)] 93)),(5,(.grow (((Bf ps) s)++([(.agg [(.int .i64 o.id),(.bool o.own),(.int .i64 o.op),(.str o.evr)])]:List AV)) 93 4))],6⟩ ?_ (fun m1_6=>?_)
 ·refine Dg (fuel:=1) 3 [] Bc ?_
  refine A9 [8,9,18] ?_
  exact Bl m1_2
 refine Cy false 3 (lsD 15 [0,1,2,3,4,5,6,7,8,9,10,11]) ⟨[(8,(.map 2)),(9,(.str s)),(15,(.own 4)),(16,(.agg [(.int .i64 o.id),(.bool o.own),(.int .i64 o.op),(.str o.evr)]))],[(0,(.row [(.ptr 1 0)] 32)),(1,(.row [(.int .i64 kind),(.int .i64 count),(.map 2)] 91)),(2,(.mm (Bf ps) (some s) 93 4)),(4,(.grow ((Bf ps) s) 93 4))],5⟩ ?_ (fun m1_7=>?_)
 ·refine Dg (fuel:=2) 12 [] Bc ?_
  refine A9 [8,9,15,17] ?_
  exact Bl m1_3
 refine Cy true 3 (lsD 15 [0,1,2,3,4,5,6,7,8,9,11,12]) ⟨[(8,(.map 2)),(9,(.str s)),(13,(.map 2)),(14,(.str s)),(17,(.sl 4 0 1 1 false))],[(0,(.row [(.ptr 1 0)] 32)),(1,(.row [(.int .i64 kind),(.int .i64 count),(.map 2)] 91)),(2,(.mm (Bf ps) none 93 4)),(4,(.row [(.int .i64 o.id),(.bool o.own),(.int .i64 o.op),(.str o.evr)] 93))],5⟩ ?_ (fun m1_8=>?_)
 ·refine Ha (fuel:=2) 10 (by kernel_rfl) ?_
  refine Dt (fuel:=2) 10 rfl ?_
  refine Fv (b:=2) (s:=s) (y:=⟨[(8,(.map 2)),(9,(.str s)),(13,(.map 2)),(14,(.str s)),(17,(.sl 4 0 1 1 false)),(15,(.own 5))],[(0,(.row [(.ptr 1 0)] 32)),(1,(.row [(.int .i64 kind),(.int .i64 count),(.map 2)] 91)),(2,(.mm (Bf ps) (some s) 93 4)),(4,(.row [(.int .i64 o.id),(.bool o.own),(.int .i64 o.op),(.str o.evr)] 93)),(5,(.grow ((Bf ps) s) 93 4))],6⟩) (by kernel_rfl) (by kernel_rfl) (by kernel_rfl) Tryz.underlying89 Tryz.underlying9 (fun _=>by kernel_rfl) (by kernel_rfl) ?_
  refine Cd ⟨rfl,?_⟩
  refine A9 [8,9,15,17] ?_
  exact Bl m1_4
 refine Cy false 3 (lsD 15 [0,1,2,4,5,6,7,8,9,10,11,12]) ⟨[(7,(.ptr 1 2)),(9,(.str s)),(15,(.own 4)),(17,(.sl 5 0 1 1 false))],[(0,(.row [(.ptr 1 0)] 32)),(1,(.row [(.int .i64 kind),(.int .i64 count),(.map 2)] 91)),(2,(.mm (Bf ps) (some s) 93 4)),(4,(.grow ((Bf ps) s) 93 4)),(5,(.row [(.int .i64 o.id),(.bool o.own),(.int .i64 o.op),(.str o.evr)] 93))],6⟩ ?_ (fun m1_9=>?_)
 ·refine C2 3 13 (by kernel_rfl) ?_ ?_
  ·refine Bi (fuel:=2) 3 [] Bc ?_
   refine A9 [8,9,15,17] ?_
   exact Bl m1_3
  ·refine Bi (fuel:=2) 13 [] (hold (p:=((((Bf ps) s).length+1)*40≤140737488355328)) (by omega)) ?_
   refine A9 [7,9,18] ?_
   exact Bl m1_5
 refine Cy false 3 (lsD 15 [0,1,2,4,5,6,7,8,9,10,11,12]) ⟨[(7,(.ptr 1 2)),(9,(.str s)),(15,(.own 5)),(17,(.sl 4 0 1 1 false))],[(0,(.row [(.ptr 1 0)] 32)),(1,(.row [(.int .i64 kind),(.int .i64 count),(.map 2)] 91)),(2,(.mm (Bf ps) (some s) 93 4)),(4,(.row [(.int .i64 o.id),(.bool o.own),(.int .i64 o.op),(.str o.evr)] 93)),(5,(.grow ((Bf ps) s) 93 4))],6⟩ ?_ (fun m1_10=>?_)
 ·refine C2 3 13 (by kernel_rfl) ?_ ?_
  ·refine Bi (fuel:=2) 3 [] Bc ?_
   refine A9 [8,9,15,17] ?_
   exact Bl m1_4
  ·refine Bi (fuel:=2) 13 [] (hold (p:=((((Bf ps) s).length+1)*40≤140737488355328)) (by omega)) ?_
   refine A9 [7,9,18] ?_
   exact Bl m1_6
 refine Cy true 4 (lsD 15 [0,1,2,3,4,5,6,7,8,9,11]) ⟨[(8,(.map 2)),(9,(.str s)),(13,(.map 2)),(14,(.str s)),(16,(.agg [(.int .i64 o.id),(.bool o.own),(.int .i64 o.op),(.str o.evr)]))],[(0,(.row [(.ptr 1 0)] 32)),(1,(.row [(.int .i64 kind),(.int .i64 count),(.map 2)] 91)),(2,(.mm (Bf ps) none 93 4))],4⟩ ?_ (fun m1_11=>?_)
 ·refine C2 10 12 (by kernel_rfl) ?_ ?_
  ·refine Dt (fuel:=3) 10 rfl ?_
   refine Fv (b:=2) (s:=s) (y:=⟨[(8,(.map 2)),(9,(.str s)),(13,(.map 2)),(14,(.str s)),(16,(.agg [(.int .i64 o.id),(.bool o.own),(.int .i64 o.op),(.str o.evr)])),(15,(.own 4))],[(0,(.row [(.ptr 1 0)] 32)),(1,(.row [(.int .i64 kind),(.int .i64 count),(.map 2)] 91)),(2,(.mm (Bf ps) (some s) 93 4)),(4,(.grow ((Bf ps) s) 93 4))],5⟩) (by kernel_rfl) (by kernel_rfl) (by kernel_rfl) Tryz.underlying89 Tryz.underlying9 (fun _=>by kernel_rfl) (by kernel_rfl) ?_
   refine Cd ⟨rfl,?_⟩
   refine A9 [8,9,15,16] ?_
   exact Bl m1_7
  ·refine Bi (fuel:=3) 12 [] Bc ?_
   refine A9 [8,9,13,14,17] ?_
   exact Bl m1_8
 refine Cy true 4 (lsD 15 [0,1,2,3,4,5,6,7,9,11,12]) ⟨[(8,(.map 2)),(9,(.str s)),(12,(.ptr 1 2)),(14,(.str s)),(17,(.sl 4 0 1 1 false))],[(0,(.row [(.ptr 1 0)] 32)),(1,(.row [(.int .i64 kind),(.int .i64 count),(.map 2)] 91)),(2,(.mm (Bf ps) none 93 4)),(4,(.row [(.int .i64 o.id),(.bool o.own),(.int .i64 o.op),(.str o.evr)] 93))],5⟩ ?_ (fun m1_12=>?_)
 ·refine Dg (fuel:=3) 8 [] Bc ?_
  refine A9 [8,9,13,14,17] ?_
  exact Bl m1_8
 refine Cy false 4 (lsD 15 [0,1,2,4,5,6,7,8,9,10,11]) ⟨[(7,(.ptr 1 2)),(9,(.str s)),(15,(.own 4)),(16,(.agg [(.int .i64 o.id),(.bool o.own),(.int .i64 o.op),(.str o.evr)]))],[(0,(.row [(.ptr 1 0)] 32)),(1,(.row [(.int .i64 kind),(.int .i64 count),(.map 2)] 91)),(2,(.mm (Bf ps) (some s) 93 4)),(4,(.grow ((Bf ps) s) 93 4))],5⟩ ?_ (fun m1_13=>?_)
 ·refine C2 3 12 (by kernel_rfl) ?_ ?_
  ·refine Bi (fuel:=3) 3 [] Bc ?_
   refine A9 [8,9,15,16] ?_
   exact Bl m1_7
  ·refine Bi (fuel:=3) 12 [] Bc ?_
   refine A9 [7,9,15,17] ?_
   exact Bl m1_9
 refine Cy true 4 (lsD 15 [0,1,2,4,5,6,7,8,9,11,12]) ⟨[(7,(.ptr 1 2)),(9,(.str s)),(13,(.map 2)),(14,(.str s)),(17,(.sl 4 0 1 1 false))],[(0,(.row [(.ptr 1 0)] 32)),(1,(.row [(.int .i64 kind),(.int .i64 count),(.map 2)] 91)),(2,(.mm (Bf ps) none 93 4)),(4,(.row [(.int .i64 o.id),(.bool o.own),(.int .i64 o.op),(.str o.evr)] 93))],5⟩ ?_ (fun m1_14=>?_)
 ·refine C2 3 10 (by kernel_rfl) ?_ ?_
  ·refine Bi (fuel:=3) 3 [] Bc ?_
   refine A9 [8,9,13,14,17] ?_
   exact Bl m1_8
  ·refine Dt (fuel:=3) 10 rfl ?_
   refine Fv (b:=2) (s:=s) (y:=⟨[(7,(.ptr 1 2)),(9,(.str s)),(13,(.map 2)),(14,(.str s)),(17,(.sl 4 0 1 1 false)),(15,(.own 5))],[(0,(.row [(.ptr 1 0)] 32)),(1,(.row [(.int .i64 kind),(.int .i64 count),(.map 2)] 91)),(2,(.mm (Bf ps) (some s) 93 4)),(4,(.row [(.int .i64 o.id),(.bool o.own),(.int .i64 o.op),(.str o.evr)] 93)),(5,(.grow ((Bf ps) s) 93 4))],6⟩) (by kernel_rfl) (by kernel_rfl) (by kernel_rfl) Tryz.underlying89 Tryz.underlying9 (fun _=>by kernel_rfl) (by kernel_rfl) ?_
   refine Cd ⟨rfl,?_⟩
   refine A9 [7,9,15,17] ?_
   exact Bl m1_10
 refine Cy true 5 (lsD 15 [0,1,2,3,4,5,6,7,9,11]) ⟨[(8,(.map 2)),(9,(.str s)),(12,(.ptr 1 2)),(14,(.str s)),(16,(.agg [(.int .i64 o.id),(.bool o.own),(.int .i64 o.op),(.str o.evr)]))],[(0,(.row [(.ptr 1 0)] 32)),(1,(.row [(.int .i64 kind),(.int .i64 count),(.map 2)] 91)),(2,(.mm (Bf ps) none 93 4))],4⟩ ?_ (fun m1_15=>?_)
 ·refine C2 8 12 (by kernel_rfl) ?_ ?_
  ·refine Bi (fuel:=4) 8 [] Bc ?_
   refine A9 [8,9,13,14,16] ?_
   exact Bl m1_11
  ·refine Bi (fuel:=4) 12 [] Bc ?_
   refine A9 [8,9,12,14,17] ?_
   exact Bl m1_12
 refine Cy true 5 (lsD 15 [0,1,2,4,5,6,7,8,9,11]) ⟨[(7,(.ptr 1 2)),(9,(.str s)),(13,(.map 2)),(14,(.str s)),(16,(.agg [(.int .i64 o.id),(.bool o.own),(.int .i64 o.op),(.str o.evr)]))],[(0,(.row [(.ptr 1 0)] 32)),(1,(.row [(.int .i64 kind),(.int .i64 count),(.map 2)] 91)),(2,(.mm (Bf ps) none 93 4))],4⟩ ?_ (fun m1_16=>?_)
 ·refine Gn 3 10 12 (by kernel_rfl) ?_ ?_ ?_
  ·refine Bi (fuel:=4) 3 [] Bc ?_
   refine A9 [8,9,13,14,16] ?_
   exact Bl m1_11
  ·refine Dt (fuel:=4) 10 rfl ?_
   refine Fv (b:=2) (s:=s) (y:=⟨[(7,(.ptr 1 2)),(9,(.str s)),(13,(.map 2)),(14,(.str s)),(16,(.agg [(.int .i64 o.id),(.bool o.own),(.int .i64 o.op),(.str o.evr)])),(15,(.own 4))],[(0,(.row [(.ptr 1 0)] 32)),(1,(.row [(.int .i64 kind),(.int .i64 count),(.map 2)] 91)),(2,(.mm (Bf ps) (some s) 93 4)),(4,(.grow ((Bf ps) s) 93 4))],5⟩) (by kernel_rfl) (by kernel_rfl) (by kernel_rfl) Tryz.underlying89 Tryz.underlying9 (fun _=>by kernel_rfl) (by kernel_rfl) ?_
   refine Cd ⟨rfl,?_⟩
   refine A9 [7,9,15,16] ?_
   exact Bl m1_13
  ·refine Bi (fuel:=4) 12 [] Bc ?_
   refine A9 [7,9,13,14,17] ?_
   exact Bl m1_14
 refine Cy true 5 (lsD 15 [0,1,2,4,5,6,7,9,11,12]) ⟨[(7,(.ptr 1 2)),(9,(.str s)),(12,(.ptr 1 2)),(14,(.str s)),(17,(.sl 4 0 1 1 false))],[(0,(.row [(.ptr 1 0)] 32)),(1,(.row [(.int .i64 kind),(.int .i64 count),(.map 2)] 91)),(2,(.mm (Bf ps) none 93 4)),(4,(.row [(.int .i64 o.id),(.bool o.own),(.int .i64 o.op),(.str o.evr)] 93))],5⟩ ?_ (fun m1_17=>?_)
 ·refine C2 3 8 (by kernel_rfl) ?_ ?_
  ·refine Bi (fuel:=4) 3 [] Bc ?_
   refine A9 [8,9,12,14,17] ?_
   exact Bl m1_12
  ·refine Bi (fuel:=4) 8 [] Bc ?_
   refine A9 [7,9,13,14,17] ?_
   exact Bl m1_14
 refine Cy true 7 (lsD 15 [0,1,2,3,4,9,11,12]) ⟨[(2,(.ptr 0 0)),(8,(.map 2)),(9,(.str s)),(14,(.str s)),(17,(.sl 4 0 1 1 false))],[(0,(.row [(.ptr 1 0)] 32)),(1,(.row [(.int .i64 kind),(.int .i64 count),(.map 2)] 91)),(2,(.mm (Bf ps) none 93 4)),(4,(.row [(.int .i64 o.id),(.bool o.own),(.int .i64 o.op),(.str o.evr)] 93))],5⟩ ?_ (fun m1_18=>?_)
 ·refine Dg (fuel:=6) 5 [] Bc ?_
  refine Dh (fuel:=4) [] [6,7] [8,9,12,14,17] Bc ?_
  refine Dg (fuel:=3) 8 [] Bc ?_
  refine A9 [8,9,13,14,17] ?_
  exact Bl m1_8
 refine Cy true 7 (lsD 15 [0,1,2,4,5,9,11,12]) ⟨[(7,(.ptr 1 2)),(9,(.str s)),(10,(.ptr 1 0)),(14,(.str s)),(17,(.sl 4 0 1 1 false))],[(0,(.row [(.ptr 1 0)] 32)),(1,(.row [(.int .i64 kind),(.int .i64 count),(.map 2)] 91)),(2,(.mm (Bf ps) none 93 4)),(4,(.row [(.int .i64 o.id),(.bool o.own),(.int .i64 o.op),(.str o.evr)] 93))],5⟩ ?_ (fun m1_19=>?_)
 ·refine Dh (fuel:=5) [] [6,7] [7,9,12,14,17] Bc ?_
  refine C2 3 8 (by kernel_rfl) ?_ ?_
  ·refine Bi (fuel:=4) 3 [] Bc ?_
   refine A9 [8,9,12,14,17] ?_
   exact Bl m1_12
  ·refine Bi (fuel:=4) 8 [] Bc ?_
   refine A9 [7,9,13,14,17] ?_
   exact Bl m1_14
 refine Cy true 7 (lsD 15 [4,5,6,7,8,9,11,12]) ⟨[(2,(.ptr 0 0)),(9,(.str s)),(13,(.map 2)),(14,(.str s)),(17,(.sl 4 0 1 1 false))],[(0,(.row [(.ptr 1 0)] 32)),(1,(.row [(.int .i64 kind),(.int .i64 count),(.map 2)] 91)),(2,(.mm (Bf ps) none 93 4)),(4,(.row [(.int .i64 o.id),(.bool o.own),(.int .i64 o.op),(.str o.evr)] 93))],5⟩ ?_ (fun m1_20=>?_)
 ·refine C2 0 10 (by kernel_rfl) ?_ ?_
  ·refine Bi (fuel:=6) 0 [] Bc ?_
   refine A9 [5,9,13,14,17] ?_
   refine Dh (fuel:=4) [] [1,2] [7,9,13,14,17] Bc ?_
   refine C2 3 10 (by kernel_rfl) ?_ ?_
   ·refine Bi (fuel:=3) 3 [] Bc ?_
    refine A9 [8,9,13,14,17] ?_
    exact Bl m1_8
   ·refine Dt (fuel:=3) 10 rfl ?_
    refine Fv (b:=2) (s:=s) (y:=⟨[(7,(.ptr 1 2)),(9,(.str s)),(13,(.map 2)),(14,(.str s)),(17,(.sl 4 0 1 1 false)),(15,(.own 5))],[(0,(.row [(.ptr 1 0)] 32)),(1,(.row [(.int .i64 kind),(.int .i64 count),(.map 2)] 91)),(2,(.mm (Bf ps) (some s) 93 4)),(4,(.row [(.int .i64 o.id),(.bool o.own),(.int .i64 o.op),(.str o.evr)] 93)),(5,(.grow ((Bf ps) s) 93 4))],6⟩) (by kernel_rfl) (by kernel_rfl) (by kernel_rfl) Tryz.underlying89 Tryz.underlying9 (fun _=>by kernel_rfl) (by kernel_rfl) ?_
    refine Cd ⟨rfl,?_⟩
    refine A9 [7,9,15,17] ?_
    exact Bl m1_10
  ·refine Dt (fuel:=6) 10 rfl ?_
   refine Fv (b:=2) (s:=s) (y:=⟨[(2,(.ptr 0 0)),(9,(.str s)),(13,(.map 2)),(14,(.str s)),(17,(.sl 4 0 1 1 false)),(15,(.own 5))],[(0,(.row [(.ptr 1 0)] 32)),(1,(.row [(.int .i64 kind),(.int .i64 count),(.map 2)] 91)),(2,(.mm (Bf ps) (some s) 93 4)),(4,(.row [(.int .i64 o.id),(.bool o.own),(.int .i64 o.op),(.str o.evr)] 93)),(5,(.grow ((Bf ps) s) 93 4))],6⟩) (by kernel_rfl) (by kernel_rfl) (by kernel_rfl) Tryz.underlying89 Tryz.underlying9 (fun _=>by kernel_rfl) (by kernel_rfl) ?_
   refine Cd ⟨rfl,?_⟩
   refine A9 [2,9,15,17] ?_
   refine C2 0 13 (by kernel_rfl) ?_ ?_
   ·refine Bi (fuel:=5) 0 [] Bc ?_
    refine A9 [5,9,15,17] ?_
    refine Dh (fuel:=3) [] [1,2] [7,9,15,17] Bc ?_
    refine C2 3 13 (by kernel_rfl) ?_ ?_
    ·refine Bi (fuel:=2) 3 [] Bc ?_
     refine A9 [8,9,15,17] ?_
     exact Bl m1_4
    ·refine Bi (fuel:=2) 13 [] (hold (p:=((((Bf ps) s).length+1)*40≤140737488355328)) (by omega)) ?_
     refine A9 [7,9,18] ?_
     exact Bl m1_6
   ·refine Bi (fuel:=5) 13 [] (hold (p:=((((Bf ps) s).length+1)*40≤140737488355328)) (by omega)) ?_
    refine A9 [2,9,18] ?_
    refine Dg (fuel:=4) 0 [] Bc ?_
    refine Dh (fuel:=2) [] [1,2] [7,9,18] Bc ?_
    refine Dg (fuel:=1) 3 [] Bc ?_
    refine A9 [8,9,18] ?_
    exact Bl m1_2
 refine Cy true 7 (lsD 15 [0,4,5,6,7,9,11,12]) ⟨[(5,(.ptr 1 0)),(9,(.str s)),(12,(.ptr 1 2)),(14,(.str s)),(17,(.sl 4 0 1 1 false))],[(0,(.row [(.ptr 1 0)] 32)),(1,(.row [(.int .i64 kind),(.int .i64 count),(.map 2)] 91)),(2,(.mm (Bf ps) none 93 4)),(4,(.row [(.int .i64 o.id),(.bool o.own),(.int .i64 o.op),(.str o.evr)] 93))],5⟩ ?_ (fun m1_21=>?_)
 ·refine Dh (fuel:=5) [] [1,2] [7,9,12,14,17] Bc ?_
  refine C2 3 8 (by kernel_rfl) ?_ ?_
  ·refine Bi (fuel:=4) 3 [] Bc ?_
   refine A9 [8,9,12,14,17] ?_
   exact Bl m1_12
  ·refine Bi (fuel:=4) 8 [] Bc ?_
   refine A9 [7,9,13,14,17] ?_
   exact Bl m1_14
 refine Dh (fuel:=12) [] [4,9,11] [2,9,14,16] Bc ?_
 refine Gn 0 5 12 (by kernel_rfl) ?_ ?_ ?_
 ·refine Bi (fuel:=11) 0 [] Bc ?_
  refine A9 [2,5,9,14,16] ?_
  refine Dh (fuel:=9) [] [1,2] [2,7,9,14,16] Bc ?_
  refine Gn 3 5 12 (by kernel_rfl) ?_ ?_ ?_
  ·refine Bi (fuel:=8) 3 [] Bc ?_
   refine A9 [2,8,9,14,16] ?_
   refine C2 5 12 (by kernel_rfl) ?_ ?_
   ·refine Bi (fuel:=7) 5 [] Bc ?_
    refine A9 [8,9,10,14,16] ?_
    refine Dh (fuel:=5) [] [6,7] [8,9,12,14,16] Bc ?_
    refine C2 8 12 (by kernel_rfl) ?_ ?_
    ·refine Bi (fuel:=4) 8 [] Bc ?_
     refine A9 [8,9,13,14,16] ?_
     exact Bl m1_11
    ·refine Bi (fuel:=4) 12 [] Bc ?_
     refine A9 [8,9,12,14,17] ?_
     exact Bl m1_12
   ·refine Bi (fuel:=7) 12 [] Bc ?_
    refine A9 [2,8,9,14,17] ?_
    exact Bl m1_18
  ·refine Bi (fuel:=8) 5 [] Bc ?_
   refine A9 [7,9,10,14,16] ?_
   refine Dh (fuel:=6) [] [6,7] [7,9,12,14,16] Bc ?_
   refine Gn 3 8 12 (by kernel_rfl) ?_ ?_ ?_
   ·refine Bi (fuel:=5) 3 [] Bc ?_
    refine A9 [8,9,12,14,16] ?_
    exact Bl m1_15
   ·refine Bi (fuel:=5) 8 [] Bc ?_
    refine A9 [7,9,13,14,16] ?_
    exact Bl m1_16
   ·refine Bi (fuel:=5) 12 [] Bc ?_
    refine A9 [7,9,12,14,17] ?_
    exact Bl m1_17
  ·refine Bi (fuel:=8) 12 [] Bc ?_
   refine A9 [2,7,9,14,17] ?_
   refine C2 3 5 (by kernel_rfl) ?_ ?_
   ·refine Bi (fuel:=7) 3 [] Bc ?_
    refine A9 [2,8,9,14,17] ?_
    exact Bl m1_18
   ·refine Bi (fuel:=7) 5 [] Bc ?_
    refine A9 [7,9,10,14,17] ?_
    exact Bl m1_19
 ·refine Bi (fuel:=11) 5 [] Bc ?_
  refine A9 [2,9,10,14,16] ?_
  refine Dh (fuel:=9) [] [6,7] [2,9,12,14,16] Bc ?_
  refine Gn 0 8 12 (by kernel_rfl) ?_ ?_ ?_
  ·refine Bi (fuel:=8) 0 [] Bc ?_
   refine A9 [5,9,12,14,16] ?_
   refine Dh (fuel:=6) [] [1,2] [7,9,12,14,16] Bc ?_
   refine Gn 3 8 12 (by kernel_rfl) ?_ ?_ ?_
   ·refine Bi (fuel:=5) 3 [] Bc ?_
    refine A9 [8,9,12,14,16] ?_
    exact Bl m1_15
   ·refine Bi (fuel:=5) 8 [] Bc ?_
    refine A9 [7,9,13,14,16] ?_
    exact Bl m1_16
   ·refine Bi (fuel:=5) 12 [] Bc ?_
    refine A9 [7,9,12,14,17] ?_
    exact Bl m1_17
  ·refine Bi (fuel:=8) 8 [] Bc ?_
   refine A9 [2,9,13,14,16] ?_
   refine Gn 0 10 12 (by kernel_rfl) ?_ ?_ ?_
   ·refine Bi (fuel:=7) 0 [] Bc ?_
    refine A9 [5,9,13,14,16] ?_
    refine Dh (fuel:=5) [] [1,2] [7,9,13,14,16] Bc ?_
    refine Gn 3 10 12 (by kernel_rfl) ?_ ?_ ?_
    ·refine Bi (fuel:=4) 3 [] Bc ?_
     refine A9 [8,9,13,14,16] ?_
     exact Bl m1_11
    ·refine Dt (fuel:=4) 10 rfl ?_
     refine Fv (b:=2) (s:=s) (y:=⟨[(7,(.ptr 1 2)),(9,(.str s)),(13,(.map 2)),(14,(.str s)),(16,(.agg [(.int .i64 o.id),(.bool o.own),(.int .i64 o.op),(.str o.evr)])),(15,(.own 4))],[(0,(.row [(.ptr 1 0)] 32)),(1,(.row [(.int .i64 kind),(.int .i64 count),(.map 2)] 91)),(2,(.mm (Bf ps) (some s) 93 4)),(4,(.grow ((Bf ps) s) 93 4))],5⟩) (by kernel_rfl) (by kernel_rfl) (by kernel_rfl) Tryz.underlying89 Tryz.underlying9 (fun _=>by kernel_rfl) (by kernel_rfl) ?_
     refine Cd ⟨rfl,?_⟩
     refine A9 [7,9,15,16] ?_
     exact Bl m1_13
    ·refine Bi (fuel:=4) 12 [] Bc ?_
     refine A9 [7,9,13,14,17] ?_
     exact Bl m1_14
   ·refine Dt (fuel:=7) 10 rfl ?_
    refine Fv (b:=2) (s:=s) (y:=⟨[(2,(.ptr 0 0)),(9,(.str s)),(13,(.map 2)),(14,(.str s)),(16,(.agg [(.int .i64 o.id),(.bool o.own),(.int .i64 o.op),(.str o.evr)])),(15,(.own 4))],[(0,(.row [(.ptr 1 0)] 32)),(1,(.row [(.int .i64 kind),(.int .i64 count),(.map 2)] 91)),(2,(.mm (Bf ps) (some s) 93 4)),(4,(.grow ((Bf ps) s) 93 4))],5⟩) (by kernel_rfl) (by kernel_rfl) (by kernel_rfl) Tryz.underlying89 Tryz.underlying9 (fun _=>by kernel_rfl) (by kernel_rfl) ?_
    refine Cd ⟨rfl,?_⟩
    refine A9 [2,9,15,16] ?_
    refine C2 0 12 (by kernel_rfl) ?_ ?_
    ·refine Bi (fuel:=6) 0 [] Bc ?_
     refine A9 [5,9,15,16] ?_
     refine Dh (fuel:=4) [] [1,2] [7,9,15,16] Bc ?_
     refine C2 3 12 (by kernel_rfl) ?_ ?_
     ·refine Bi (fuel:=3) 3 [] Bc ?_
      refine A9 [8,9,15,16] ?_
      exact Bl m1_7
     ·refine Bi (fuel:=3) 12 [] Bc ?_
      refine A9 [7,9,15,17] ?_
      exact Bl m1_9
    ·refine Bi (fuel:=6) 12 [] Bc ?_
     refine A9 [2,9,15,17] ?_
     refine C2 0 13 (by kernel_rfl) ?_ ?_
     ·refine Bi (fuel:=5) 0 [] Bc ?_
      refine A9 [5,9,15,17] ?_
      refine Dh (fuel:=3) [] [1,2] [7,9,15,17] Bc ?_
      refine C2 3 13 (by kernel_rfl) ?_ ?_
      ·refine Bi (fuel:=2) 3 [] Bc ?_
       refine A9 [8,9,15,17] ?_
       exact Bl m1_3
      ·refine Bi (fuel:=2) 13 [] (hold (p:=((((Bf ps) s).length+1)*40≤140737488355328)) (by omega)) ?_
       refine A9 [7,9,18] ?_
       exact Bl m1_5
     ·refine Bi (fuel:=5) 13 [] (hold (p:=((((Bf ps) s).length+1)*40≤140737488355328)) (by omega)) ?_
      refine A9 [2,9,18] ?_
      refine Dg (fuel:=4) 0 [] Bc ?_
      refine Dh (fuel:=2) [] [1,2] [7,9,18] Bc ?_
      refine Dg (fuel:=1) 3 [] Bc ?_
      refine A9 [8,9,18] ?_
      exact Bl m1_1
   ·refine Bi (fuel:=7) 12 [] Bc ?_
    refine A9 [2,9,13,14,17] ?_
    exact Bl m1_20
  ·refine Bi (fuel:=8) 12 [] Bc ?_
   refine A9 [2,9,12,14,17] ?_
   refine C2 0 8 (by kernel_rfl) ?_ ?_
   ·refine Bi (fuel:=7) 0 [] Bc ?_
    refine A9 [5,9,12,14,17] ?_
    exact Bl m1_21
   ·refine Bi (fuel:=7) 8 [] Bc ?_
    refine A9 [2,9,13,14,17] ?_
    exact Bl m1_20
 ·refine Bi (fuel:=11) 12 [] Bc ?_
  refine A9 [2,9,14,17] ?_
  refine C2 0 5 (by kernel_rfl) ?_ ?_
  ·refine Bi (fuel:=10) 0 [] Bc ?_
   refine A9 [2,5,9,14,17] ?_
   refine Dh (fuel:=8) [] [1,2] [2,7,9,14,17] Bc ?_
   refine C2 3 5 (by kernel_rfl) ?_ ?_
   ·refine Bi (fuel:=7) 3 [] Bc ?_
    refine A9 [2,8,9,14,17] ?_
    exact Bl m1_18
   ·refine Bi (fuel:=7) 5 [] Bc ?_
    refine A9 [7,9,10,14,17] ?_
    exact Bl m1_19
  ·refine Bi (fuel:=10) 5 [] Bc ?_
   refine A9 [2,9,10,14,17] ?_
   refine Dh (fuel:=8) [] [6,7] [2,9,12,14,17] Bc ?_
   refine C2 0 8 (by kernel_rfl) ?_ ?_
   ·refine Bi (fuel:=7) 0 [] Bc ?_
    refine A9 [5,9,12,14,17] ?_
    exact Bl m1_21
   ·refine Bi (fuel:=7) 8 [] Bc ?_
    refine A9 [2,9,13,14,17] ?_
    exact Bl m1_20
theorem Yx (st : PoolT) (hal : st.all.length ≤ 200) (hs : ∀ i, i < st.all.length → (nth st.all i).1.size ≤ 4194304) :
  FnV Tryz.prog 10 [(.fp (Bx st))] (.fp (Be st)):=by
 refine A8 [.tmp 2] Tryz.func10 rfl Tryz.ntmps10 rfl rfl (fun B F hF=>?_)
 refine Ab [] [0] ?_
 refine Ac ?_
 refine Ab [] [0,14] ?_
 refine Fc (by kernel_rfl) ?_
 refine Ai ?_
 refine Af [] [0,3] [] (hk 1 Q29 (Q6t st)<|hk 3 Q28 (Q6s st)<|hk0) v0 c0 ?_
 refine Ac ?_
 refine Ab [] [0,3,25,26] ?_
 refine Ay ?_
 refine Q6b 0 93 4 (y:=⟨[(0,(.fp (Bx st))),(3,(.ptr 2 0)),(25,(.int .i64 ((st.all.length:Int)))),(26,(.int .i64 0))],[(0,(.mm (fun _=>[]) none 93 4)),(1,(.row [(.int .i64 st.kind),(.int .i64 ((st.all.length:Int))),(.map 0)] 91)),(2,(.row [(.ptr 1 0)] 32))],3⟩) (by kernel_rfl) ?_
 refine Bz (fun g y=>∃(i:Nat),i≤st.all.length∧y=⟨[(0,(.fp (Bx st))),(3,(.ptr 2 0)),(25,(.int .i64 ((st.all.length:Int)))),(26,(.int .i64 ((i:Int))))],[(0,(.mm (Bf (Bu st.all i)) none 93 4)),(1,(.row [(.int .i64 st.kind),(.int .i64 ((st.all.length:Int))),(.map 0)] 91)),(2,(.row [(.ptr 1 0)] 32))],3⟩∧g=st.all.length-i) [0,3,25,26] 3 _ (by omega) ⟨0,(by omega),(by kernel_rfl),rfl⟩ ?_
 rintro g1 y1 ⟨i,f1_1,rfl,rfl⟩
 refine Ab [] [0,3,25,26,27] ?_
 refine Ac ?_
 refine A5 (p:=(i:Int) < (st.all.length:Int)) (by kernel_rfl) (fun c1=>?_) (fun c1=>?_)
 ·have hpl:=Ys (l:=st.all) hs i (by omega)
  have hsz:=(nth st.all i).1.sizes
  have hsi:=hs i (by omega)
  have hpv:(nth st.all i).1.provides.length≤4194304:=by have:=Dw (nth st.all i).1.provides;unfold PkgT.depSize at hsz;omega
  have hfl:(nth st.all i).1.files.length≤4194304:=by have:=J7 (nth st.all i).1.files;omega
  refine Ai ?_
  refine Ac ?_
  refine Ay ?_
  refine Ab [] [0,3,4,25,26] ?_
  refine Af [] [0,3,4,5,25,26] [(9,5)] (hk 2 Lf (Lq st i (by omega) (hs i (by omega)))<|hk0) v0 c0 ?_
  refine Ab [] [0,3,4,5,8,25,26] ?_
  refine Ac ?_
  refine An ?_
  refine B2 7 0 [] [0,3,4,5,8,25,26,37,39,43] [] hk0 v0 c0 ?_
  refine H5 [2,1,0] (f:=44) (cap:=[(.ptr 2 0)]) (al:=[(.str (((nth st.all i).1).name)),(.agg [(.int .i64 ((i:Int))),(.bool true),(.int .i64 2),(.str (((nth st.all i).1).evr))])]) (al':=[(.str (((nth st.all i).1).name)),(.agg [(.int .i64 ((i:Int))),(.bool true),(.int .i64 2),(.str (((nth st.all i).1).evr))]),(.ptr 0 0)]) (r:=(.tup [])) (r':=(.tup [])) (s':=[(0,(.fp (Bx st))),(3,(.ptr 2 0)),(4,(.int .i64 ((i:Int)))),(5,(.fp (Av ((nth st.all i).1)))),(8,(.fn 44 [] [(.ptr 2 0)])),(25,(.int .i64 ((st.all.length:Int)))),(26,(.int .i64 ((i:Int)))),(37,(.fn 44 [] [(.ptr 2 0)])),(39,(.str (((nth st.all i).1).name))),(43,(.agg [(.int .i64 ((i:Int))),(.bool true),(.int .i64 2),(.str (((nth st.all i).1).evr))])),(44,(.tup []))]) (H:=[(0,(.row [(.ptr 1 0)] 32)),(1,(.row [(.int .i64 st.kind),(.int .i64 ((st.all.length:Int))),(.map 2)] 91)),(2,(.mm (Bf (Bu st.all i)) none 93 4))]) (H':=[(0,(.row [(.ptr 1 0)] 32)),(1,(.row [(.int .i64 st.kind),(.int .i64 ((st.all.length:Int))),(.map 2)] 91)),(2,(.mm (Bf (Bu st.all i++[((nth st.all i).1.name,(⟨(i:Int),true,2,(nth st.all i).1.evr⟩:OfferT))])) none 93 4))]) (h2:=[(0,(.mm (Bf (Bu st.all i++[((nth st.all i).1.name,(⟨(i:Int),true,2,(nth st.all i).1.evr⟩:OfferT))])) none 93 4)),(1,(.row [(.int .i64 st.kind),(.int .i64 ((st.all.length:Int))),(.map 0)] 91)),(2,(.row [(.ptr 1 0)] 32))]) (by kernel_rfl) (by kernel_rfl) (by exact Va) (by kernel_rfl) (by kernel_rfl) (by kernel_rfl) (by kernel_rfl) (by kernel_rfl) (Tq st.kind (st.all.length:Int) (Bu st.all i) ((nth st.all i).1.name) ⟨(i:Int),true,2,(nth st.all i).1.evr⟩ (Nat.le_trans (Qh _ _) (by first|(simp only[List.length_append];have:=P6 (i:=i) (p:=(nth st.all i).1) (j:=0);have:=P5 (i:=i) (p:=(nth st.all i).1) (j:=0);omega)|omega))) (by kernel_rfl) (by kernel_rfl) (by kernel_rfl) ?_
  refine Cd ?_
  refine Ac ?_
  refine Ab [] [0,3,4,5,8,25,26,46,47,48] ?_
  refine Ay ?_
  refine Bz (fun g y=>∃(j:Nat),j≤(nth st.all i).1.provides.length∧y=⟨[(0,(.fp (Bx st))),(3,(.ptr 2 0)),(4,(.int .i64 ((i:Int)))),(5,(.fp (Av ((nth st.all i).1)))),(8,(.fn 44 [] [(.ptr 2 0)])),(25,(.int .i64 ((st.all.length:Int)))),(26,(.int .i64 ((i:Int)))),(46,(Ae 5 Ao (((nth st.all i).1).provides))),(47,(.int .i64 (((((nth st.all i).1).provides).length:Int)))),(48,(.int .i64 ((j:Int))))],[(0,(.mm (Bf (Bu st.all i++Ee i (nth st.all i).1 j)) none 93 4)),(1,(.row [(.int .i64 st.kind),(.int .i64 ((st.all.length:Int))),(.map 0)] 91)),(2,(.row [(.ptr 1 0)] 32))],4⟩∧g=(nth st.all i).1.provides.length-j) [0,3,4,5,8,25,26,46,47,48] 4 _ (by omega) ⟨0,(by omega),(by kernel_rfl),rfl⟩ ?_
  rintro g2 y2 ⟨j,f2_1,rfl,rfl⟩
  refine Ab [] [0,3,4,5,8,25,26,46,47,48,49] ?_
  refine Ac ?_
  refine A5 (p:=(j:Int) < ((((nth st.all i).1).provides).length:Int)) (by kernel_rfl) (fun c2=>?_) (fun c2=>?_)
  ·refine Ai ?_
   refine Ac ?_
   refine Ay ?_
   refine Af [] [0,3,4,5,8,10,25,26,46,47,48] [] hk0 v0 (cc 0 (p:=(0≤(j:Int)∧j < (((nth st.all i).1).provides).length)) (by omega)<|c0) ?_
   refine An ?_
   refine B2 9 0 [] [0,3,4,5,8,25,26,46,47,48,52,54,60] [(0,10)] hk0 v0 c0 ?_
   refine H5 [2,1,0] (f:=44) (cap:=[(.ptr 2 0)]) (al:=[(.str ((nth (((nth st.all i).1).provides) j).name)),(.agg [(.int .i64 ((i:Int))),(.bool false),(.int .i64 ((nth (((nth st.all i).1).provides) j).op)),(.str ((nth (((nth st.all i).1).provides) j).evr))])]) (al':=[(.str ((nth (((nth st.all i).1).provides) j).name)),(.agg [(.int .i64 ((i:Int))),(.bool false),(.int .i64 ((nth (((nth st.all i).1).provides) j).op)),(.str ((nth (((nth st.all i).1).provides) j).evr))]),(.ptr 0 0)]) (r:=(.tup [])) (r':=(.tup [])) (s':=[(0,(.fp (Bx st))),(3,(.ptr 2 0)),(4,(.int .i64 ((i:Int)))),(5,(.fp (Av ((nth st.all i).1)))),(8,(.fn 44 [] [(.ptr 2 0)])),(25,(.int .i64 ((st.all.length:Int)))),(26,(.int .i64 ((i:Int)))),(46,(Ae 5 Ao (((nth st.all i).1).provides))),(47,(.int .i64 (((((nth st.all i).1).provides).length:Int)))),(48,(.int .i64 ((j:Int)))),(52,(.fn 44 [] [(.ptr 2 0)])),(54,(.str ((nth (((nth st.all i).1).provides) j).name))),(60,(.agg [(.int .i64 ((i:Int))),(.bool false),(.int .i64 ((nth (((nth st.all i).1).provides) j).op)),(.str ((nth (((nth st.all i).1).provides) j).evr))])),(61,(.tup []))]) (H:=[(0,(.row [(.ptr 1 0)] 32)),(1,(.row [(.int .i64 st.kind),(.int .i64 ((st.all.length:Int))),(.map 2)] 91)),(2,(.mm (Bf (Bu st.all i++Ee i (nth st.all i).1 j)) none 93 4))]) (H':=[(0,(.row [(.ptr 1 0)] 32)),(1,(.row [(.int .i64 st.kind),(.int .i64 ((st.all.length:Int))),(.map 2)] 91)),(2,(.mm (Bf (Bu st.all i++Ee i (nth st.all i).1 j++[((nth (nth st.all i).1.provides j).name,(⟨(i:Int),false,(nth (nth st.all i).1.provides j).op,(nth (nth st.all i).1.provides j).evr⟩:OfferT))])) none 93 4))]) (h2:=[(0,(.mm (Bf (Bu st.all i++Ee i (nth st.all i).1 j++[((nth (nth st.all i).1.provides j).name,(⟨(i:Int),false,(nth (nth st.all i).1.provides j).op,(nth (nth st.all i).1.provides j).evr⟩:OfferT))])) none 93 4)),(1,(.row [(.int .i64 st.kind),(.int .i64 ((st.all.length:Int))),(.map 0)] 91)),(2,(.row [(.ptr 1 0)] 32))]) (by kernel_rfl) (by kernel_rfl) (by exact Va) (by kernel_rfl) (by kernel_rfl) (by kernel_rfl) (by kernel_rfl) (by kernel_rfl) (Tq st.kind (st.all.length:Int) (Bu st.all i++Ee i (nth st.all i).1 j) ((nth (nth st.all i).1.provides j).name) ⟨(i:Int),false,(nth (nth st.all i).1.provides j).op,(nth (nth st.all i).1.provides j).evr⟩ (Nat.le_trans (Qh _ _) (by first|(simp only[List.length_append];have:=P6 (i:=i) (p:=(nth st.all i).1) (j:=j);have:=P5 (i:=i) (p:=(nth st.all i).1) (j:=j);omega)|omega))) (by kernel_rfl) (by kernel_rfl) (by kernel_rfl) ?_
   refine Cd ?_
   refine An ?_
   refine Au 0 [] [0,3,4,5,8,25,26,46,47,48] [] hk0 v0 (cc 0 (p:=(-9223372036854775808≤(j:Int)+1∧(j:Int)+1≤9223372036854775807)) (by omega)<|c0) ?_
   refine⟨by kernel_rfl,_,?_,j+1,?_,(Eq.trans (b:=(⟨[(0,(.fp (Bx st))),(3,(.ptr 2 0)),(4,(.int .i64 ((i:Int)))),(5,(.fp (Av ((nth st.all i).1)))),(8,(.fn 44 [] [(.ptr 2 0)])),(25,(.int .i64 ((st.all.length:Int)))),(26,(.int .i64 ((i:Int)))),(46,(Ae 5 Ao (((nth st.all i).1).provides))),(47,(.int .i64 (((((nth st.all i).1).provides).length:Int)))),(48,(.int .i64 ((j:Int)+1)))],[(0,(.mm (Bf (Bu st.all i++Ee i (nth st.all i).1 j++[((nth (nth st.all i).1.provides j).name,(⟨(i:Int),false,(nth (nth st.all i).1.provides j).op,(nth (nth st.all i).1.provides j).evr⟩:OfferT))])) none 93 4)),(1,(.row [(.int .i64 st.kind),(.int .i64 ((st.all.length:Int))),(.map 0)] 91)),(2,(.row [(.ptr 1 0)] 32))],4⟩:St)) (by kernel_rfl) (by rw[Q90 (by omega),←List.append_assoc]<;>kernel_rfl)),rfl⟩
   ·omega
   ·omega
  ·refine Bp ?_
   refine Ab [] [0,3,4,8,25,26,64,65,66] ?_
   refine Ay ?_
   refine Bz (fun g y=>∃(j:Nat),j≤(nth st.all i).1.files.length∧y=⟨[(0,(.fp (Bx st))),(3,(.ptr 2 0)),(4,(.int .i64 ((i:Int)))),(8,(.fn 44 [] [(.ptr 2 0)])),(25,(.int .i64 ((st.all.length:Int)))),(26,(.int .i64 ((i:Int)))),(64,(Di (((nth st.all i).1).files))),(65,(.int .i64 (((((nth st.all i).1).files).length:Int)))),(66,(.int .i64 ((j:Int))))],[(0,(.mm (Bf (Bu st.all i++D1 i (nth st.all i).1 j)) none 93 4)),(1,(.row [(.int .i64 st.kind),(.int .i64 ((st.all.length:Int))),(.map 0)] 91)),(2,(.row [(.ptr 1 0)] 32))],4⟩∧g=(nth st.all i).1.files.length-j) [0,3,4,8,25,26,64,65,66] 4 _ (by omega) ⟨0,(by omega),(Eq.trans (b:=(⟨[(0,(.fp (Bx st))),(3,(.ptr 2 0)),(4,(.int .i64 ((i:Int)))),(8,(.fn 44 [] [(.ptr 2 0)])),(25,(.int .i64 ((st.all.length:Int)))),(26,(.int .i64 ((i:Int)))),(64,(Di (((nth st.all i).1).files))),(65,(.int .i64 (((((nth st.all i).1).files).length:Int)))),(66,(.int .i64 0))],[(0,(.mm (Bf (Bu st.all i++Ee i (nth st.all i).1 j)) none 93 4)),(1,(.row [(.int .i64 st.kind),(.int .i64 ((st.all.length:Int))),(.map 0)] 91)),(2,(.row [(.ptr 1 0)] 32))],4⟩:St)) (by kernel_rfl) (by rw[show D1 i (nth st.all i).1 0=Ee i (nth st.all i).1 (nth st.all i).1.provides.length from by simp[D1],show(nth st.all i).1.provides.length=j from by omega]<;>kernel_rfl)),rfl⟩ ?_
   rintro g3 y3 ⟨j,f3_1,rfl,rfl⟩
   refine Ab [] [0,3,4,8,25,26,64,65,66,67] ?_
   refine Ac ?_
   refine A5 (p:=(j:Int) < ((((nth st.all i).1).files).length:Int)) (by kernel_rfl) (fun c3=>?_) (fun c3=>?_)
   ·refine Ai ?_
    refine Ac ?_
    refine Ay ?_
    refine Af [] [0,3,4,8,12,25,26,64,65,66] [] hk0 v0 (cc 0 (p:=(0≤(j:Int)∧j < (((nth st.all i).1).files).length)) (by omega)<|c0) ?_
    refine An ?_
    refine B2 4 0 [] [0,3,4,8,25,26,64,65,66,70,71,73] [] hk0 v0 c0 ?_
    refine H5 [2,1,0] (f:=44) (cap:=[(.ptr 2 0)]) (al:=[(.str (nth (((nth st.all i).1).files) j)),(.agg [(.int .i64 ((i:Int))),(.bool false),(.int .i64 0),(.str [])])]) (al':=[(.str (nth (((nth st.all i).1).files) j)),(.agg [(.int .i64 ((i:Int))),(.bool false),(.int .i64 0),(.str [])]),(.ptr 0 0)]) (r:=(.tup [])) (r':=(.tup [])) (s':=[(0,(.fp (Bx st))),(3,(.ptr 2 0)),(4,(.int .i64 ((i:Int)))),(8,(.fn 44 [] [(.ptr 2 0)])),(25,(.int .i64 ((st.all.length:Int)))),(26,(.int .i64 ((i:Int)))),(64,(Di (((nth st.all i).1).files))),(65,(.int .i64 (((((nth st.all i).1).files).length:Int)))),(66,(.int .i64 ((j:Int)))),(70,(.fn 44 [] [(.ptr 2 0)])),(71,(.str (nth (((nth st.all i).1).files) j))),(73,(.agg [(.int .i64 ((i:Int))),(.bool false),(.int .i64 0),(.str [])])),(74,(.tup []))]) (H:=[(0,(.row [(.ptr 1 0)] 32)),(1,(.row [(.int .i64 st.kind),(.int .i64 ((st.all.length:Int))),(.map 2)] 91)),(2,(.mm (Bf (Bu st.all i++D1 i (nth st.all i).1 j)) none 93 4))]) (H':=[(0,(.row [(.ptr 1 0)] 32)),(1,(.row [(.int .i64 st.kind),(.int .i64 ((st.all.length:Int))),(.map 2)] 91)),(2,(.mm (Bf (Bu st.all i++D1 i (nth st.all i).1 j++[(nth (nth st.all i).1.files j,(⟨(i:Int),false,0,[]⟩:OfferT))])) none 93 4))]) (h2:=[(0,(.mm (Bf (Bu st.all i++D1 i (nth st.all i).1 j++[(nth (nth st.all i).1.files j,(⟨(i:Int),false,0,[]⟩:OfferT))])) none 93 4)),(1,(.row [(.int .i64 st.kind),(.int .i64 ((st.all.length:Int))),(.map 0)] 91)),(2,(.row [(.ptr 1 0)] 32))]) (by kernel_rfl) (by kernel_rfl) (by exact Va) (by kernel_rfl) (by kernel_rfl) (by kernel_rfl) (by kernel_rfl) (by kernel_rfl) (Tq st.kind (st.all.length:Int) (Bu st.all i++D1 i (nth st.all i).1 j) (nth (nth st.all i).1.files j) ⟨(i:Int),false,0,[]⟩ (Nat.le_trans (Qh _ _) (by first|(simp only[List.length_append];have:=P6 (i:=i) (p:=(nth st.all i).1) (j:=j);have:=P5 (i:=i) (p:=(nth st.all i).1) (j:=j);omega)|omega))) (by kernel_rfl) (by kernel_rfl) (by kernel_rfl) ?_
    refine Cd ?_
    refine An ?_
    refine Au 0 [] [0,3,4,8,25,26,64,65,66] [] hk0 v0 (cc 0 (p:=(-9223372036854775808≤(j:Int)+1∧(j:Int)+1≤9223372036854775807)) (by omega)<|c0) ?_
    refine⟨by kernel_rfl,_,?_,j+1,?_,(Eq.trans (b:=(⟨[(0,(.fp (Bx st))),(3,(.ptr 2 0)),(4,(.int .i64 ((i:Int)))),(8,(.fn 44 [] [(.ptr 2 0)])),(25,(.int .i64 ((st.all.length:Int)))),(26,(.int .i64 ((i:Int)))),(64,(Di (((nth st.all i).1).files))),(65,(.int .i64 (((((nth st.all i).1).files).length:Int)))),(66,(.int .i64 ((j:Int)+1)))],[(0,(.mm (Bf (Bu st.all i++D1 i (nth st.all i).1 j++[(nth (nth st.all i).1.files j,(⟨(i:Int),false,0,[]⟩:OfferT))])) none 93 4)),(1,(.row [(.int .i64 st.kind),(.int .i64 ((st.all.length:Int))),(.map 0)] 91)),(2,(.row [(.ptr 1 0)] 32))],4⟩:St)) (by kernel_rfl) (by rw[Q9z (by omega),←List.append_assoc]<;>kernel_rfl)),rfl⟩
    ·omega
    ·omega
   ·refine Bp ?_
    refine An ?_
    refine Au 0 [] [0,3,25,26] [] hk0 v0 (cc 0 (p:=(-9223372036854775808≤(i:Int)+1∧(i:Int)+1≤9223372036854775807)) (by omega)<|c0) ?_
    refine⟨by kernel_rfl,_,?_,i+1,?_,(Eq.trans (b:=(⟨[(0,(.fp (Bx st))),(3,(.ptr 2 0)),(25,(.int .i64 ((st.all.length:Int)))),(26,(.int .i64 ((i:Int)+1)))],[(0,(.mm (Bf (Bu st.all i++D1 i (nth st.all i).1 j)) none 93 4)),(1,(.row [(.int .i64 st.kind),(.int .i64 ((st.all.length:Int))),(.map 0)] 91)),(2,(.row [(.ptr 1 0)] 32))],3⟩:St)) (by kernel_rfl) (by rw[Yr,show Fo i (nth st.all i).1=D1 i (nth st.all i).1 j from by unfold Fo;rw[show(nth st.all i).1.files.length=j from by omega]]<;>kernel_rfl)),rfl⟩
    ·omega
    ·omega
 ·refine Bp ?_
  refine Ac ?_
  refine An ?_
  refine Kl 1 2 (y:=⟨[(0,(.fp (Bx st))),(3,(.ptr 2 0)),(25,(.int .i64 ((st.all.length:Int)))),(26,(.int .i64 ((i:Int)))),(27,(.bool (decide ((i:Int) < (st.all.length:Int)))))],[(1,(.row [(.int .i64 st.kind),(.int .i64 ((st.all.length:Int))),(.smap (.slice none 0 0) (fun kq => .row 4 ((Bf (Bu st.all i)) kq).length (fun ix=>((Bf (Bu st.all i)) kq).getD ix Br)))] 91)),(2,(.row [(.ptr 1 0)] 32))],3⟩) (by kernel_rfl) ?_
  refine Ei [] [2] ?_
  refine Ag ?_
  refine RK wR [(.fp (.agg [(.int .i64 st.kind),(.int .i64 ((st.all.length:Int))),(.smap (.slice none 0 0) (fun kq => .row 4 ((Bf (Bu st.all i)) kq).length (fun ix=>((Bf (Bu st.all i)) kq).getD ix Br)))]))] ?_
  rw[show i=st.all.length from by omega]
  exact Same.of_eq rfl
end Sv
end
section
open Go Go.RowKit
namespace Sv
theorem Ul {φ:Phi}:∀{l:List Int} {vs:List Value},VRl φ (l.map (AV.int .i64)) vs→vs=l.map (Value.int .i64)
  |[],vs,h=>h.nil_inv
  |x::l,vs,h=>by
    obtain⟨v,vs',rfl,h1,h2⟩:=h.cons_inv
    simp only[VR] at h1
    rw[Ul h2,h1];rfl
theorem Sk {φ:Phi}:∀l:List Int,VRl φ (l.map (AV.int .i64)) (l.map (Value.int .i64))
  |[] => .nil
  |x::l => .cons (by simp only[VR]) (Sk l)
theorem Q1 (l:List Int):(l.map (Value.int .i64)).flatMap (fun u=>u.cells.toList)=l.map (Value.int .i64):=by
  induction l with
  |nil=>rfl
  |cons x l ih=>rw[List.map_cons,List.flatMap_cons,ih];first|done|rfl
theorem Q4s (l:List Int):∀u∈l.map (Value.int .i64),u.cells.size=1∧∀c∈u.cells.toList,c.oneCell'=true:=by
  intro u hu
  obtain⟨x,_,rfl⟩:=List.mem_map.1 hu
  exact⟨rfl,fun c hc=>by simp[Value.cells] at hc;subst hc;rfl⟩
theorem Rel.rebaseI {B:Bas} {φ:Phi} {h:AH} {w:World} (r:Rel B φ h w):Rel (G6 φ h w) φ h w :=
  ⟨⟨rfl,rfl,rfl,Nat.le_refl _,fun _ _=>rfl⟩,r.fro,fun b o e=>by have:=r.obj b o e;cases o<;>exact this,r.sep,fun b o k e i=>⟨fun q=>q.2 b o e i,(r.gf b o k e i).2⟩⟩
theorem Vw (zs:List Int):(Lib.compact zs).length≤zs.length:=by
  have:∀m,(Lib.compactUpTo zs.toArray m).length≤m:=by
    intro m
    induction m with
    |zero=>simp[Lib.compactUpTo]
    |succ m ih =>
      rw[Lib.compactUpTo_succ,List.length_append]
      split<;>simp<;>omega
  exact this _
theorem Q4o (l : List Int) (hl : l.length ≤ 4611686018427) :
    Gp Tryz.prog 123 [.own 0] [(0,.grow (l.map (AV.int .i64)) 3 1)] 1 (.own 0) [(0,.grow ((Lib.compact l).map (AV.int .i64)) 3 1)]:=by
  intro B0 φ w vs r hv
  obtain⟨v,rfl,hv1⟩:=hv.single_inv
  simp only[VR] at hv1
  obtain⟨v0,us,q1,q2,q3,q4⟩:=r.obj 0 _ rfl
  rw[hv1.1] at q1;cases q1
  have hu:=Ul q3
  subst hu
  rw[Q1,List.length_map] at q2
  have hr:=r.rebaseI
  rcases q2.2 with⟨rfl,hn⟩|⟨g,cap,cur,rfl,hg1,hg2,hg3,hg4,hg5,hg6⟩
  · have hl0:l=[]:=List.length_eq_zero_iff.1 hn
    subst hl0
    refine(Tryz.slices_Compact_int_empty none 0 w).mono ?_
    rintro e w' ⟨he,rfl⟩
    exact⟨_,he,φ,hr,by simp only[VR];exact hv1,fun _ _ _ e=>e,fun _ _ e=>e,fun _ _ e => .inl e⟩
  · have hh:Go.Sort.Holds (Value.int .i64) w g 0 l.toArray:=holds_of_blockI hg2 (by simpa using hg6)
    refine(Tryz.slices_Compact_int g 0 cap l w hh (by omega) hg3).mono ?_
    rintro e w' ⟨he,n,rfl⟩
    have hgr:=grownBy_sortedI (w:=w) (g:=g) (n:=n) (os := #[]) (Lib.compact l++List.replicate (l.length-(Lib.compact l).length) 0).toArray
    rw[Go.Sort.grow_empty] at hgr
    have hle:=Vw l
    have hts:(Lib.compact l++List.replicate (l.length-(Lib.compact l).length) (0:Int)).length=l.length:=by simp;omega
    have ho:=ownsRow_sortedI (n:=n) (os := #[]) (base:=0) (ts:=Lib.compact l++List.replicate (l.length-(Lib.compact l).length) 0) (ss:=l) hts hg1 hg2 hg3 hg4 (by simpa using hg5)
    rw[Go.Sort.grow_empty] at ho
    refine⟨_,he,⟨φ.m,fun i=>if i=0 then some (.slice (some ⟨g,0,none⟩) (Lib.compact l).length cap) else φ.s i,φ.f⟩,?_,by simp only[VR];exact⟨rfl,_,_,_,rfl⟩,fun _ _ _ e=>e,fun _ _ e=>e,fun _ _ e => .inl e⟩
    have ht:Turn φ ⟨φ.m,fun i=>if i=0 then some (.slice (some ⟨g,0,none⟩) (Lib.compact l).length cap) else φ.s i,φ.f⟩ 0:=⟨fun _=>rfl,fun c hc=>if_neg hc,fun _ _ e=>e⟩
    refine Rel.grown (v':=.slice (some ⟨g,0,none⟩) (Lib.compact l).length cap) (es':=(Lib.compact l).map (AV.int .i64)) hr (b:=0) rfl hv1.1 ht rfl rfl hgr (.inl rfl) (fun k hk=>by cases hk;exact Nat.lt_of_lt_of_le (Ft hg2) hgr.size) ⟨_,(Lib.compact l).map (Value.int .i64),rfl,?_,Sk _,Q4s _⟩
    rw[Q1,List.length_map]
    refine⟨by simp,.inr ⟨g,cap,Go.Sort.putCells (Value.int .i64) 0 (Lib.compact l++List.replicate (l.length-(Lib.compact l).length) 0).toArray cur,rfl,hg1,?_,by omega,hg4,by simp[Go.Sort.putCells,hg5],?_⟩⟩
    · have:=heap_sortedI (w:=w) (g:=g) (n:=n) (os := #[]) (Lib.compact l++List.replicate (l.length-(Lib.compact l).length) 0).toArray hg2
      rw[Go.Sort.grow_empty] at this;exact this
    · have:=take_putCellsI cur (Lib.compact l++List.replicate (l.length-(Lib.compact l).length) 0) (by rw[hts,hg5];omega)
      have:=congrArg (List.take (Lib.compact l).length) this
      rw[List.take_take,Nat.min_eq_left (by rw[hts];exact hle),List.map_append,List.take_append_of_le_length (by simp),List.take_of_length_le (l:=(Lib.compact l).map (Value.int .i64)) (by simp)] at this
      rw[Nat.mul_one];exact this
end Sv
end
section
open Go Go.RowKit
namespace Sv
attribute [local irreducible] SW SO Bs
set_option maxHeartbeats 1000000
set_option maxRecDepth 100000
theorem X57:As Tryz.prog 122:=Az Tryz.func122 (by kernel_rfl) rfl
theorem Q22:As Tryz.prog 56:=Az Tryz.func56 (by kernel_rfl) rfl
theorem Q32:As Tryz.prog 124:=Az Tryz.func124 (by kernel_rfl) rfl
theorem Rd:As Tryz.prog 58:=Az Tryz.func58 (by kernel_rfl) rfl
theorem Vi:As Tryz.prog 123:=Az Tryz.func123 (by kernel_rfl) rfl
theorem X5f:As Tryz.prog 170:=Az Tryz.func170 (by kernel_rfl) rfl
theorem X5w:As Tryz.prog 140:=Az Tryz.func140 (by kernel_rfl) rfl
theorem U5:As Tryz.prog 83:=Az Tryz.func83 (by kernel_rfl) rfl
theorem X02 (ps:List (List UInt8 × OfferT)) (s:List UInt8):Imp (.row 4 (Bf ps s).length (fun i=>(Bf ps s).getD i Br)) (Ae 4 I9 (Cm ps s)):=Imp.list (f:=I9) (List.length_map _)
def I0 (m:Int→Int→List UInt8→Int→List UInt8→Bool × Int):Prop:=∀k op a o b,a.length≤4194304→b.length≤4194304→FnV Tryz.prog 170 [.int .i64 k,.int .i64 op,.str a,.int .i64 o,.str b] (.tup [.bool (m k op a o b).1,.int .i64 (m k op a o b).2])
def Jh (m:Int→Int→List UInt8→Int→List UInt8→Bool × Int) (k:Int) (d:DepT) (o:OfferT):Bool:=if d.op=0∨o.op=0 then decide (d.op=0) else (m k d.op d.evr o.op o.evr).1
def IdxOk (st:PoolT):Prop:=st.all.length≤200∧∀i,i < st.all.length→(nth st.all i).1.size≤4194304
theorem IdxOk.len {st:PoolT} (h:IdxOk st) (s:List UInt8):(Cm (Bu st.all st.all.length) s).length≤2147483648:=by
 have h1:=Ys h.2 st.all.length (Nat.le_refl _)
 have h2:=Qh (Bu st.all st.all.length) s
 have h3:(Bf (Bu st.all st.all.length) s).length=(Cm (Bu st.all st.all.length) s).length:=List.length_map _
 have:=h.1
 omega
theorem Dy {α:Type} [Inhabited α] {l:List α} {j:Nat} (h:j < l.length):nth l j=l[j]:=by simp[nth,h]
theorem Q9y {st:PoolT} (h:IdxOk st) {q:List UInt8 × OfferT} (hq:q∈Bu st.all st.all.length):q.2.evr.length≤4194304:=by
 unfold Bu at hq
 obtain⟨i,hi,hq⟩:=List.mem_flatMap.1 hq
 have hi:i < st.all.length:=by simpa using hi
 have h1:=h.2 i hi
 have h2:=(nth st.all i).1.sizes
 unfold Fo D1 Ee at hq
 simp only[List.take_length,List.cons_append,List.mem_cons,List.mem_append,List.mem_map] at hq
 rcases hq with rfl|⟨d,hd,rfl⟩|⟨x,hx,rfl⟩
 ·show(nth st.all i).1.evr.length≤_;omega
 ·obtain⟨j,hj,rfl⟩:=List.getElem_of_mem hd
  have h3:=Ke (l:=(nth st.all i).1.provides) (i:=j) hj
  have h4:=El (nth (nth st.all i).1.provides j)
  have h5:argsSize (nth st.all i).1.provides≤(nth st.all i).1.depSize:=by unfold PkgT.depSize;omega
  have h6:nth (nth st.all i).1.provides j=(nth st.all i).1.provides[j]:=Dy hj
  rw[h6] at h3 h4
  show(nth st.all i).1.provides[j].evr.length≤_
  omega
 ·exact Nat.zero_le _
theorem IdxOk.evr {st:PoolT} (h:IdxOk st) {s:List UInt8} {i:Nat} (hi:i < (Cm (Bu st.all st.all.length) s).length):(nth (Cm (Bu st.all st.all.length) s) i).evr.length≤4194304:=by
 have hm:nth (Cm (Bu st.all st.all.length) s) i∈Cm (Bu st.all st.all.length) s:=by
  have:nth (Cm (Bu st.all st.all.length) s) i=(Cm (Bu st.all st.all.length) s)[i]:=by simp[nth,hi]
  rw[this];exact List.getElem_mem hi
 obtain⟨q,hq,e⟩:=List.mem_map.1 hm
 rw[←e];exact Q9y h (List.mem_filter.1 hq).1
def G2 (m:Int→Int→List UInt8→Int→List UInt8→Bool × Int) (st:PoolT) (d:DepT) (own:Bool) (o:OfferT):Bool:=(o.own||!own)&&Jh m st.kind d o
def D2 (m:Int→Int→List UInt8→Int→List UInt8→Bool × Int) (st:PoolT) (d:DepT) (own:Bool) (i:Nat):List Int:=(((Cm (Bu st.all st.all.length) d.name).take i).filter (G2 m st d own)).map fun o=>o.id
def Fg (m:Int→Int→List UInt8→Int→List UInt8→Bool × Int) (st:PoolT) (d:DepT) (own:Bool):List Int:=Lib.compact (D2 m st d own (Cm (Bu st.all st.all.length) d.name).length)
theorem Q1v {m:Int→Int→List UInt8→Int→List UInt8→Bool × Int} {st:PoolT} {d:DepT} {own:Bool} {i:Nat} (h:i < (Cm (Bu st.all st.all.length) d.name).length):D2 m st d own (i+1)=D2 m st d own i++(if G2 m st d own (nth (Cm (Bu st.all st.all.length) d.name) i)=true then [(nth (Cm (Bu st.all st.all.length) d.name) i).id] else []):=by
 unfold D2
 rw[List.take_add_one,List.getElem?_eq_getElem h,List.filter_append,List.map_append]
 congr 1
 have:nth (Cm (Bu st.all st.all.length) d.name) i=(Cm (Bu st.all st.all.length) d.name)[i]:=by simp[nth,h]
 rw[this]
 cases hc:G2 m st d own (Cm (Bu st.all st.all.length) d.name)[i]<;>simp[hc]
theorem Uo {m:Int→Int→List UInt8→Int→List UInt8→Bool × Int} {st:PoolT} {d:DepT} {own:Bool} {i:Nat}:(D2 m st d own i).length≤(Cm (Bu st.all st.all.length) d.name).length:=by
 unfold D2
 rw[List.length_map]
 exact Nat.le_trans (List.length_filter_le _ _) (by simp;omega)
theorem X29 {m:Int→Int→List UInt8→Int→List UInt8→Bool × Int} {st:PoolT} {d:DepT} {own:Bool} {i:Nat} (h:i < (Cm (Bu st.all st.all.length) d.name).length) (hc:G2 m st d own (nth (Cm (Bu st.all st.all.length) d.name) i)=true):(D2 m st d own (i+1)).map (AV.int .i64)=(D2 m st d own i).map (AV.int .i64)++[.int .i64 (nth (Cm (Bu st.all st.all.length) d.name) i).id]:=by
 rw[Q1v h,if_pos hc,List.map_append];rfl
theorem X3a {m:Int→Int→List UInt8→Int→List UInt8→Bool × Int} {st:PoolT} {d:DepT} {own:Bool} {i:Nat} (h:i < (Cm (Bu st.all st.all.length) d.name).length) (hc:G2 m st d own (nth (Cm (Bu st.all st.all.length) d.name) i)=false):D2 m st d own (i+1)=D2 m st d own i:=by
 rw[Q1v h,if_neg (by rw[hc];simp),List.append_nil]
theorem Q1j (l : List Int) (a : AV) (p : Int → Bool) (hl : l.length ≤ 4611686018427387904) (ha : ∀ i, i < l.length → FunV Tryz.prog a [(.int .i64 (nth l i))] (.bool (p (nth l i)))) :
  FnV Tryz.prog 124 [(Ah l),(.clo a)] (.int .i64 (B8 p l)):=by
 refine A8 [.tmp 4] Tryz.func124 rfl Tryz.ntmps124 rfl rfl (fun B F hF=>?_)
 refine Ab [] [0,1] ?_
 refine Ac ?_
 refine Ab [] [0,1,7,8] ?_
 refine Ay ?_
 refine Bz (fun g y=>∃(i:Nat),i≤l.length∧(∀j,j < i→p (nth l j)=false)∧y=⟨[(0,(Ah l)),(1,(.clo a)),(7,(.int .i64 ((l.length:Int)))),(8,(.int .i64 ((i:Int))))],[],0⟩∧g=l.length-i) [0,1,7,8] 0 _ (by omega) ⟨0,(by omega),(by exact fun j hj=>by omega),(by kernel_rfl),rfl⟩ ?_
 rintro g1 y1 ⟨i,f1_1,f1_2,rfl,rfl⟩
 refine Ab [] [0,1,7,8,9] ?_
 refine Ac ?_
 refine A5 (p:=(i:Int) < (l.length:Int)) (by kernel_rfl) (fun c1=>?_) (fun c1=>?_)
 ·refine Ai ?_
  refine Ac ?_
  refine Ay ?_
  refine Ab [] [0,1,5,7,8] ?_
  refine Ac ?_
  refine An ?_
  refine B2 5 0 [] [0,1,5,7,8,11,15] [] hk0 v0 (cc 3 (p:=(0≤(i:Int)∧i < l.length)) (by omega)<|c0) ?_
  refine F9 (s':=[(0,(Ah l)),(1,(.clo a)),(5,(.int .i64 ((i:Int)))),(7,(.int .i64 ((l.length:Int)))),(8,(.int .i64 ((i:Int)))),(11,(.clo a)),(15,(.int .i64 (nth l i))),(16,(.bool (p (nth l i))))]) (a:=(.clo a)) (al:=[(.int .i64 (nth l i))]) (r:=(.bool (p (nth l i)))) (by kernel_rfl) (by kernel_rfl) (by kernel_rfl) (by kernel_rfl) (by kernel_rfl) ((ha i (by omega)).clo) (by kernel_rfl) ?_
  refine Cd ?_
  refine Bd (q:=p (nth l i)) (by kernel_rfl) (fun c2=>?_) (fun c2=>?_)
  ·try simp only[Am] at c2
   refine Ab [] [4] ?_
   refine Ag ?_
   refine RK wR [(.int .i64 ((i:Int)))] ?_
   exact Same.of_eq (by rw[J5 (by omega) f1_2 (by simp_all)];rfl)
  ·try simp only[Am] at c2
   refine Ai ?_
   refine An ?_
   refine Au 0 [] [0,1,7,8] [] hk0 v0 (cc 0 (p:=(-9223372036854775808≤(i:Int)+1∧(i:Int)+1≤9223372036854775807)) (by omega)<|c0) ?_
   refine⟨by kernel_rfl,_,?_,i+1,?_,?_,(by kernel_rfl),rfl⟩
   ·omega
   ·omega
   ·intro j hj
    by_cases h:j=i
    ·subst h;simp_all
    ·exact f1_2 j (by omega)
 ·refine Bp ?_
  refine Ab [] [4] ?_
  refine Ag ?_
  refine RK wR [(.int .i64 (-1))] ?_
  exact Same.of_eq (by rw[J4 (fun j hj=>f1_2 j (by omega))];rfl)
theorem Qv (l : List Int) (a : AV) (p : Int → Bool) (hl : l.length ≤ 4611686018427387904) (ha : ∀ i, i < l.length → FunV Tryz.prog a [(.int .i64 (nth l i))] (.bool (p (nth l i)))) :
  FnV Tryz.prog 58 [(Ah l),(.clo a)] (.bool (l.any p)):=by
 refine A8 [.tmp 4] Tryz.func58 rfl Tryz.ntmps58 rfl rfl (fun B F hF=>?_)
 refine Ab [] [0,1] ?_
 refine Af [] [4] [] (hk 2 Q32 (Q1j l a p hl ha)<|hk0) v0 c0 ?_
 refine Ag ?_
 refine RK wR [(.bool (decide (0≤(B8 p l))))] ?_
 exact Same.of_eq (by simp only[Ak];rw[Lb])
theorem X3w (m : Int → Int → List UInt8 → Int → List UInt8 → Bool × Int) (hM : I0 m) (st : PoolT) (d : DepT) (o : OfferT) (hd : d.size ≤ 4194304) (ho : o.evr.length ≤ 4194304) :
  FnV Tryz.prog 122 [(.fp (Be st)),(.agg [(.int .i64 d.kind),(.str d.name),(.int .i64 d.op),(.str d.evr),(.row 5 d.args.length (depAt d.args))]),(.agg [(.int .i64 o.id),(.bool o.own),(.int .i64 o.op),(.str o.evr)])] (.bool (Jh m st.kind d o)):=by
 have hda:=El d
 refine A8 [.tmp 6] Tryz.func122 rfl Tryz.ntmps122 rfl rfl (fun B F hF=>?_)
 refine Af [] [0,4,5] [(1,4),(2,5)] hk0 v0 c0 ?_
 refine Ac ?_
 obtain⟨b1,hb1⟩:∃b,b=(decide (d.op=0)):=⟨_,rfl⟩
 refine Af (CS:=[(5,((!b1)=true→(!b1)=true)),(6,((!b1)=true→(!b1)=true)),(7,(b1=false→(!b1)=true))]) [13,14,15] [0,4,5,16] [] hk0 (vk 4 12 (a:=.bool (decide (d.op=0))) (b:=.bool b1) (Imp.of_eq (by rw[hb1]))<|v0) (by refine cc _ ?_<|cc _ ?_<|cc _ ?_ c0<;>simp) ?_
 refine Bd (q:=b1||(decide (o.op=0))) (by kernel_rfl) (fun c1=>?_) (fun c1=>?_)
 ·subst hb1
  try simp only[Am] at c1
  refine Ab [] [6] ?_
  refine Ag ?_
  refine RK wR [(.bool (decide (d.op=0)))] ?_
  exact Same.of_eq (by simp only[Ak];unfold Jh;rw[if_pos (by simpa using c1)])
 ·subst hb1
  try simp only[Am] at c1
  refine Ai ?_
  refine Cr [] [7] [] (hk 12 X5f (hM st.kind d.op d.evr o.op o.evr (by omega) ho)<|hk0) v0 c0 ?_
  refine Ab [] [6] ?_
  refine Ag ?_
  refine RK wR [(.bool ((m st.kind d.op d.evr o.op o.evr).1))] ?_
  exact Same.of_eq (by simp only[Ak];unfold Jh;rw[if_neg (by simpa using c1)])
theorem Q0m (m : Int → Int → List UInt8 → Int → List UInt8 → Bool × Int) (hM : I0 m) (st : PoolT) (hi : IdxOk st) (d : DepT) (own : Bool) (hd : d.size ≤ 4194304) :
  FnV Tryz.prog 56 [(.fp (Be st)),(.agg [(.int .i64 d.kind),(.str d.name),(.int .i64 d.op),(.str d.evr),(.row 5 d.args.length (depAt d.args))]),(.bool own)] (Ah (Fg m st d own)):=by
 have hlg:(Bf (Bu st.all st.all.length) d.name).length=(Cm (Bu st.all st.all.length) d.name).length:=List.length_map _
 have hll:=hi.len d.name
 refine A8 [.tmp 6] Tryz.func56 rfl Tryz.ntmps56 rfl rfl (fun B F hF=>?_)
 refine Af [] [0,2,4] [(1,4)] hk0 v0 c0 ?_
 refine Ab [] [0,2,4,7] ?_
 refine Ac ?_
 refine Ac ?_
 refine Kk (by kernel_rfl) (fun F1 hF1=>?_)
 refine Dh (fuel:=2) [] [0,1,2,3,4,5,8] [0,2,4,7,13,15,18] Bc ?_
 refine Ha (fuel:=1) 6 (by kernel_rfl) ?_
 refine Dt (fuel:=1) 6 rfl ?_
 refine X87 (s:=d.name) (z:=.slice none 0 0) (G:=fun s => .row 4 (Bf (Bu st.all st.all.length) s).length (fun i=>(Bf (Bu st.all st.all.length) s).getD i Br)) (s':=[(0,(.fp (Be st))),(2,(.bool own)),(4,(.fp (.agg [(.int .i64 d.kind),(.str d.name),(.int .i64 d.op),(.str d.evr),(.row 5 d.args.length (depAt d.args))]))),(7,.nils),(13,(.smap (.slice none 0 0) (fun s => .row 4 (Bf (Bu st.all st.all.length) s).length (fun i=>(Bf (Bu st.all st.all.length) s).getD i Br)))),(15,(.str d.name)),(18,(.int .i64 0)),(16,(.row 4 (Bf (Bu st.all st.all.length) d.name).length (fun i=>(Bf (Bu st.all st.all.length) d.name).getD i Br)))]) (by kernel_rfl) (by kernel_rfl) (by kernel_rfl) Tryz.underlying89 Tryz.underlying9 (fun _=>by kernel_rfl) (by kernel_rfl) ?_
 refine Cd ⟨rfl,?_⟩
 refine Dh (fuel:=0) [] [7] [0,2,4,7,16,17,18] Bc ?_
 refine A9 [0,2,4,7,16,17,18] ?_
 refine Ho (by kernel_rfl) ?_
 refine Ay ?_
 refine Wg 16 (Ae 4 I9 (Cm (Bu st.all st.all.length) d.name)) (by kernel_rfl) (X02 (Bu st.all st.all.length) d.name) ?_
 refine Js 3 1 7 (y:=⟨[(0,(.fp (Be st))),(2,(.bool own)),(4,(.fp (.agg [(.int .i64 d.kind),(.str d.name),(.int .i64 d.op),(.str d.evr),(.row 5 d.args.length (depAt d.args))]))),(7,(.own 1)),(16,(Ae 4 I9 (Cm (Bu st.all st.all.length) d.name))),(17,(.int .i64 (((Bf (Bu st.all st.all.length) d.name).length:Int)))),(18,(.int .i64 0))],[(1,(.grow [] 3 1))],2⟩) (by kernel_rfl) (by kernel_rfl) ?_
 refine Bz (fun g y=>∃(i:Nat),i≤(Cm (Bu st.all st.all.length) d.name).length∧y=⟨[(0,(.fp (Be st))),(2,(.bool own)),(4,(.fp (.agg [(.int .i64 d.kind),(.str d.name),(.int .i64 d.op),(.str d.evr),(.row 5 d.args.length (depAt d.args))]))),(7,(.own 1)),(16,(Ae 4 I9 (Cm (Bu st.all st.all.length) d.name))),(17,(.int .i64 (((Bf (Bu st.all st.all.length) d.name).length:Int)))),(18,(.int .i64 ((i:Int))))],[(1,(.grow ((D2 m st d own i).map (AV.int .i64)) 3 1))],2⟩∧g=(Cm (Bu st.all st.all.length) d.name).length-i) [0,2,4,7,16,17,18] 2 _ (by omega) ⟨0,(by omega),(by kernel_rfl),rfl⟩ ?_
 rintro g1 y1 ⟨i,f1_1,rfl,rfl⟩
 have hhl:=Uo (m:=m) (st:=st) (d:=d) (own:=own) (i:=i)
 have hhm:((D2 m st d own i).map (AV.int .i64)).length=(D2 m st d own i).length:=List.length_map _
 refine Ab [] [0,2,4,7,16,17,18,19] ?_
 refine Ac ?_
 refine A5 (p:=(i:Int) < ((Bf (Bu st.all st.all.length) d.name).length:Int)) (by kernel_rfl) (fun c1=>?_) (fun c1=>?_)
 ·refine Ai ?_
  refine Ac ?_
  refine Ay ?_
  refine Af [] [0,2,4,7,9,16,17,18] [] hk0 v0 (cc 0 (p:=(0≤(i:Int)∧i < (Cm (Bu st.all st.all.length) d.name).length)) (by omega)<|c0) ?_
  obtain⟨b1,hb1⟩:∃b,b=((nth (Cm (Bu st.all st.all.length) d.name) i).own):=⟨_,rfl⟩
  refine Af (CS:=[(4,((!b1)=true→(!b1)=true)),(5,(b1=false→(!b1)=true)),(10,(b1||(!own))=true→(b1||(!own))=true∧(b1||(!own))=true∧(b1||(!own))=true),(11,((b1||(!own))=true→(b1||(!own))=true))]) [25,26,29,30,31] [0,2,4,7,9,16,17,18,33] [(0,9)] (hkg 10 (b1||(!own)) X57 (fun cg=>X3w m hM st d (nth (Cm (Bu st.all st.all.length) d.name) i) hd (hi.evr (by omega)))<|hk0) (vk 3 24 (a:=.bool ((nth (Cm (Bu st.all st.all.length) d.name) i).own)) (b:=.bool b1) (Imp.of_eq (by rw[hb1]))<|v0) (by refine cc _ ?_<|cc _ ?_<|cc _ ?_<|cc _ ?_ c0<;>simp) ?_
  refine Bd (q:=(b1||(!own))&&(Jh m st.kind d (nth (Cm (Bu st.all st.all.length) d.name) i))) (by kernel_rfl) (fun c2=>?_) (fun c2=>?_)
  ·subst hb1
   try simp only[Am] at c2
   refine An ?_
   refine Au 0 [] [0,2,4,7,16,17,18] [] hk0 v0 (cc 4 (p:=((((D2 m st d own i).map (AV.int .i64)).length+1)*8≤140737488355328)) (by omega)<|c0) ?_
   refine An ?_
   refine Au 0 [] [0,2,4,7,16,17,18] [] hk0 v0 (cc 0 (p:=(-9223372036854775808≤(i:Int)+1∧(i:Int)+1≤9223372036854775807)) (by omega)<|c0) ?_
   refine⟨by kernel_rfl,_,?_,i+1,?_,(Eq.trans (b:=(⟨[(0,(.fp (Be st))),(2,(.bool own)),(4,(.fp (.agg [(.int .i64 d.kind),(.str d.name),(.int .i64 d.op),(.str d.evr),(.row 5 d.args.length (depAt d.args))]))),(7,(.own 1)),(16,(Ae 4 I9 (Cm (Bu st.all st.all.length) d.name))),(17,(.int .i64 (((Bf (Bu st.all st.all.length) d.name).length:Int)))),(18,(.int .i64 ((i:Int)+1)))],[(1,(.grow (((D2 m st d own i).map (AV.int .i64))++([(.int .i64 ((nth (Cm (Bu st.all st.all.length) d.name) i).id))]:List AV)) 3 1))],2⟩:St)) (by kernel_rfl) (by rw[X29 (by omega) (by unfold G2;simpa using c2)]<;>kernel_rfl)),rfl⟩
   ·omega
   ·omega
  ·subst hb1
   try simp only[Am] at c2
   refine Ai ?_
   refine An ?_
   refine Au 0 [] [0,2,4,7,16,17,18] [] hk0 v0 (cc 0 (p:=(-9223372036854775808≤(i:Int)+1∧(i:Int)+1≤9223372036854775807)) (by omega)<|c0) ?_
   refine⟨by kernel_rfl,_,?_,i+1,?_,(Eq.trans (b:=(⟨[(0,(.fp (Be st))),(2,(.bool own)),(4,(.fp (.agg [(.int .i64 d.kind),(.str d.name),(.int .i64 d.op),(.str d.evr),(.row 5 d.args.length (depAt d.args))]))),(7,(.own 1)),(16,(Ae 4 I9 (Cm (Bu st.all st.all.length) d.name))),(17,(.int .i64 (((Bf (Bu st.all st.all.length) d.name).length:Int)))),(18,(.int .i64 ((i:Int)+1)))],[(1,(.grow ((D2 m st d own i).map (AV.int .i64)) 3 1))],2⟩:St)) (by kernel_rfl) (by rw[X3a (by omega) (by unfold G2;simp only[Bool.and_eq_false_iff,Bool.or_eq_false_iff,Bool.not_eq_false'];simpa only [Bool.not_eq_false',Bool.not_eq_eq_eq_not,Bool.not_false] using c2)]<;>kernel_rfl)),rfl⟩
   ·omega
   ·omega
 ·refine Bp ?_
  refine Ac ?_
  refine An ?_
  refine B2 1 0 [] [40] [] hk0 v0 c0 ?_
  refine Nb [1] (al:=[(.own 1)]) (al':=[(.own 0)]) (r:=(.own 0)) (r':=(.own 1)) (s':=[(40,Br),(41,(.own 1))]) (H:=[(0,(.grow ((D2 m st d own i).map (AV.int .i64)) 3 1))]) (H':=[(0,(.grow ((Lib.compact (D2 m st d own i)).map (AV.int .i64)) 3 1))]) (h2:=[(1,(.grow ((Lib.compact (D2 m st d own i)).map (AV.int .i64)) 3 1))]) (by kernel_rfl) (by exact Vi) (by kernel_rfl) (by kernel_rfl) (by kernel_rfl) (by kernel_rfl) (by kernel_rfl) (Q4o (D2 m st d own i) (by have:=Uo (m:=m) (st:=st) (d:=d) (own:=own) (i:=i);omega)) (by kernel_rfl) (by kernel_rfl) (by kernel_rfl) ?_
  refine Au 2 [] [6] [] hk0 v0 c0 ?_
  refine Ag ?_
  refine RK wR [(.row 1 ((Lib.compact (D2 m st d own i)).map (AV.int .i64)).length (fun ix=>((Lib.compact (D2 m st d own i)).map (AV.int .i64)).getD ix Br))] ?_
  rw[show i=(Cm (Bu st.all st.all.length) d.name).length from by omega]
  exact Same.list (f:=AV.int .i64) (List.length_map _)
end Sv
end
section
open Go Go.RowKit
namespace Sv
attribute [local irreducible] SW SO Bs
set_option maxHeartbeats 400000
set_option maxRecDepth 100000
theorem X5g:As Tryz.prog 169:=Az Tryz.func169 (by kernel_rfl) rfl
theorem X59:As Tryz.prog 120:=Az Tryz.func120 (by kernel_rfl) rfl
theorem X6c:As Tryz.prog 117:=Az Tryz.func117 (by kernel_rfl) rfl
theorem X6b:As Tryz.prog 118:=Az Tryz.func118 (by kernel_rfl) rfl
theorem X6a:As Tryz.prog 119:=Az Tryz.func119 (by kernel_rfl) rfl
theorem X58:As Tryz.prog 121:=Az Tryz.func121 (by kernel_rfl) rfl
theorem Q23:As Tryz.prog 54:=Az Tryz.func54 (by kernel_rfl) rfl
instance:Inhabited AV:=⟨.nilf⟩
def G5 (q:AV × Bool):AV:=.clo q.1
def N0 (l:List Int) (v:Int):Int:=B8 (fun x=>decide (v=x)) l
theorem X23 (l : List Int) (v : Int) (hl : l.length ≤ 4611686018427387904) :
  FnV Tryz.prog 140 [(Ah l),(.int .i64 v)] (.int .i64 (N0 l v)):=by
 refine A8 [.tmp 4] Tryz.func140 rfl Tryz.ntmps140 rfl rfl (fun B F hF=>?_)
 refine Ab [] [0,1] ?_
 refine Ac ?_
 refine Ab [] [0,1,7,8] ?_
 refine Ay ?_
 refine Bz (fun g y=>∃(i:Nat),i≤l.length∧(∀j,j < i→¬v=nth l j)∧y=⟨[(0,(Ah l)),(1,(.int .i64 v)),(7,(.int .i64 ((l.length:Int)))),(8,(.int .i64 ((i:Int))))],[],0⟩∧g=l.length-i) [0,1,7,8] 0 _ (by omega) ⟨0,(by omega),(by exact fun j hj=>by omega),(by kernel_rfl),rfl⟩ ?_
 rintro g1 y1 ⟨i,f1_1,f1_2,rfl,rfl⟩
 refine Ab [] [0,1,7,8,9] ?_
 refine Ac ?_
 refine A5 (p:=(i:Int) < (l.length:Int)) (by kernel_rfl) (fun c1=>?_) (fun c1=>?_)
 ·refine Ai ?_
  refine Ac ?_
  refine Ay ?_
  refine Ab [] [0,1,5,7,8] ?_
  refine Af [] [0,1,5,7,8,16] [] hk0 v0 (cc 3 (p:=(0≤(i:Int)∧i < l.length)) (by omega)<|c0) ?_
  refine A5 (p:=v=(nth l i)) (by kernel_rfl) (fun c2=>?_) (fun c2=>?_)
  ·refine Ab [] [4] ?_
   refine Ag ?_
   refine RK wR [(.int .i64 ((i:Int)))] ?_
   exact Same.of_eq (by unfold N0;rw[J5 (p:=fun x=>decide (v=x)) (i:=i) (by omega) (fun j hj=>by simpa using f1_2 j hj) (by simpa using c2)];rfl)
  ·refine Ai ?_
   refine An ?_
   refine Au 0 [] [0,1,7,8] [] hk0 v0 (cc 0 (p:=(-9223372036854775808≤(i:Int)+1∧(i:Int)+1≤9223372036854775807)) (by omega)<|c0) ?_
   refine⟨by kernel_rfl,_,?_,i+1,?_,?_,(by kernel_rfl),rfl⟩
   ·omega
   ·omega
   ·intro j hj
    by_cases h:j=i
    ·subst h;assumption
    ·exact f1_2 j (by omega)
 ·refine Bp ?_
  refine Ab [] [4] ?_
  refine Ag ?_
  refine RK wR [(.int .i64 (-1))] ?_
  exact Same.of_eq (by unfold N0;rw[J4 (p:=fun x=>decide (v=x)) (fun j hj=>by simpa using f1_2 j (by omega))];rfl)
theorem Vu (l : List Int) (v : Int) (hl : l.length ≤ 4611686018427387904) :
  FnV Tryz.prog 83 [(Ah l),(.int .i64 v)] (.bool (l.any fun x=>decide (v=x))):=by
 refine A8 [.tmp 4] Tryz.func83 rfl Tryz.ntmps83 rfl rfl (fun B F hF=>?_)
 refine Ab [] [0,1] ?_
 refine Af [] [4] [] (hk 2 X5w (X23 l v hl)<|hk0) v0 c0 ?_
 refine Ag ?_
 refine RK wR [(.bool (decide (0≤(N0 l v))))] ?_
 exact Same.of_eq (by simp only[Ak];unfold N0;rw[Lb])
theorem X3m (l : List (AV × Bool)) (a : AV) (p : (AV × Bool) → Bool) (hl : l.length ≤ 4611686018427387904) (ha : ∀ i, i < l.length → FunV Tryz.prog a [(.clo ((nth l i).1))] (.bool (p (nth l i)))) :
  FnV Tryz.prog 169 [(Ae 1 G5 l),(.clo a)] (.int .i64 (B8 p l)):=by
 refine A8 [.tmp 4] Tryz.func169 rfl Tryz.ntmps169 rfl rfl (fun B F hF=>?_)
 refine Ab [] [0,1] ?_
 refine Ac ?_
 refine Ab [] [0,1,7,8] ?_
 refine Ay ?_
 refine Bz (fun g y=>∃(i:Nat),i≤l.length∧(∀j,j < i→p (nth l j)=false)∧y=⟨[(0,(Ae 1 G5 l)),(1,(.clo a)),(7,(.int .i64 ((l.length:Int)))),(8,(.int .i64 ((i:Int))))],[],0⟩∧g=l.length-i) [0,1,7,8] 0 _ (by omega) ⟨0,(by omega),(by exact fun j hj=>by omega),(by kernel_rfl),rfl⟩ ?_
 rintro g1 y1 ⟨i,f1_1,f1_2,rfl,rfl⟩
 refine Ab [] [0,1,7,8,9] ?_
 refine Ac ?_
 refine A5 (p:=(i:Int) < (l.length:Int)) (by kernel_rfl) (fun c1=>?_) (fun c1=>?_)
 ·refine Ai ?_
  refine Ac ?_
  refine Ay ?_
  refine Ab [] [0,1,5,7,8] ?_
  refine Ac ?_
  refine An ?_
  refine B2 5 0 [] [0,1,5,7,8,11,15] [] hk0 v0 (cc 3 (p:=(0≤(i:Int)∧i < l.length)) (by omega)<|c0) ?_
  refine F9 (s':=[(0,(Ae 1 G5 l)),(1,(.clo a)),(5,(.int .i64 ((i:Int)))),(7,(.int .i64 ((l.length:Int)))),(8,(.int .i64 ((i:Int)))),(11,(.clo a)),(15,(.clo ((nth l i).1))),(16,(.bool (p (nth l i))))]) (a:=(.clo a)) (al:=[(.clo ((nth l i).1))]) (r:=(.bool (p (nth l i)))) (by kernel_rfl) (by kernel_rfl) (by kernel_rfl) (by kernel_rfl) (by kernel_rfl) ((ha i (by omega)).clo) (by kernel_rfl) ?_
  refine Cd ?_
  refine Bd (q:=p (nth l i)) (by kernel_rfl) (fun c2=>?_) (fun c2=>?_)
  ·try simp only[Am] at c2
   refine Ab [] [4] ?_
   refine Ag ?_
   refine RK wR [(.int .i64 ((i:Int)))] ?_
   exact Same.of_eq (by rw[J5 (by omega) f1_2 (by simp_all)];rfl)
  ·try simp only[Am] at c2
   refine Ai ?_
   refine An ?_
   refine Au 0 [] [0,1,7,8] [] hk0 v0 (cc 0 (p:=(-9223372036854775808≤(i:Int)+1∧(i:Int)+1≤9223372036854775807)) (by omega)<|c0) ?_
   refine⟨by kernel_rfl,_,?_,i+1,?_,?_,(by kernel_rfl),rfl⟩
   ·omega
   ·omega
   ·intro j hj
    by_cases h:j=i
    ·subst h;simp_all
    ·exact f1_2 j (by omega)
 ·refine Bp ?_
  refine Ab [] [4] ?_
  refine Ag ?_
  refine RK wR [(.int .i64 (-1))] ?_
  exact Same.of_eq (by rw[J4 (fun j hj=>f1_2 j (by omega))];rfl)
theorem X3n (l : List (AV × Bool)) (a : AV) (p : (AV × Bool) → Bool) (hl : l.length ≤ 4611686018427387904) (ha : ∀ i, i < l.length → FunV Tryz.prog a [(.clo ((nth l i).1))] (.bool (p (nth l i)))) :
  FnV Tryz.prog 120 [(Ae 1 G5 l),(.clo a)] (.bool (l.any p)):=by
 refine A8 [.tmp 4] Tryz.func120 rfl Tryz.ntmps120 rfl rfl (fun B F hF=>?_)
 refine Ab [] [0,1] ?_
 refine Af [] [4] [] (hk 2 X5g (X3m l a p hl ha)<|hk0) v0 c0 ?_
 refine Ag ?_
 refine RK wR [(.bool (decide (0≤(B8 p l))))] ?_
 exact Same.of_eq (by simp only[Ak];rw[Lb])
theorem X8e (l : List Int) (id : Int) (hl : l.length ≤ 4611686018427387904) :
  FnV Tryz.prog 117 [(.int .i64 id),(.fp (.agg [(Ah l)]))] (.bool (l.any fun x=>decide (id=x))):=by
 refine A8 [.tmp 3] Tryz.func117 rfl Tryz.ntmps117 rfl rfl (fun B F hF=>?_)
 refine Ab [] [0,1] ?_
 refine Af [] [3] [] (hk 2 U5 (Vu l id hl)<|hk0) v0 c0 ?_
 refine Ag ?_
 refine RK wR [(.bool (l.any fun x=>decide (id=x)))] ?_
 exact Same.of_eq (by first|rfl|(simp only[Ak];simp_all))
theorem X8d (l : List (AV × Bool)) (id : Int) (hl : 2 ≤ l.length) (hf : ∀ i, i < l.length → FunV Tryz.prog (nth l i).1 [.int .i64 id] (.bool (nth l i).2)) :
  FnV Tryz.prog 118 [(.int .i64 id),(.fp (.agg [(Ae 1 G5 l)]))] (.bool ((nth l 0).2&&!(nth l 1).2)):=by
 refine A8 [.tmp 3] Tryz.func118 rfl Tryz.ntmps118 rfl rfl (fun B F hF=>?_)
 refine Ab [] [0,1] ?_
 refine Ac ?_
 refine An ?_
 refine B2 4 0 [] [0,1,6,7] [] hk0 v0 (cc 1 (p:=(0≤(0:Int)∧0 < l.length)) (by omega)<|c0) ?_
 refine F9 (s':=[(0,(.int .i64 id)),(1,(.fp (.agg [(Ae 1 G5 l)]))),(6,(.clo ((nth l 0).1))),(7,(.int .i64 id)),(8,(.bool ((nth l 0).2)))]) (a:=(.clo ((nth l 0).1))) (al:=[(.int .i64 id)]) (r:=(.bool ((nth l 0).2))) (by kernel_rfl) (by kernel_rfl) (by kernel_rfl) (by kernel_rfl) (by kernel_rfl) ((hf 0 (by omega)).clo) (by kernel_rfl) ?_
 refine B2 1 5 [] [0,1,9] [] hk0 v0 c0 ?_
 refine Oy ((nth l 0).2) (fun c1=>?_) (fun c1=>?_)
 ·refine Fd 9 (a:=.bool ((nth l 0).2)) (.bool true) (by kernel_rfl) (Imp.of_eq (by rw[c1])) ?_
  refine B2 4 6 [] [9,12,13] [] hk0 v0 (cc 7 (p:=(0≤(1:Int)∧1 < l.length)) (by omega)<|c0) ?_
  refine F9 (s':=[(9,(.bool true)),(12,(.clo ((nth l 1).1))),(13,(.int .i64 id)),(14,(.bool ((nth l 1).2)))]) (a:=(.clo ((nth l 1).1))) (al:=[(.int .i64 id)]) (r:=(.bool ((nth l 1).2))) (by kernel_rfl) (by kernel_rfl) (by kernel_rfl) (by kernel_rfl) (by kernel_rfl) ((hf 1 (by omega)).clo) (by kernel_rfl) ?_
  refine Au 11 [] [3] [] hk0 v0 c0 ?_
  refine Ag ?_
  refine RK wR [(.bool (!((nth l 1).2)))] ?_
  exact Same.of_eq (by simp only[Ak];simp_all)
 ·refine Fd 9 (a:=.bool ((nth l 0).2)) (.bool false) (by kernel_rfl) (Imp.of_eq (by rw[c1])) ?_
  refine Au 6 [] [3] [] hk0 v0 c0 ?_
  refine Ag ?_
  refine RK wR [(.bool false)] ?_
  exact Same.of_eq (by simp only[Ak];simp_all)
theorem X8c (a : AV) (q : Bool) (id : Int) (hf : FunV Tryz.prog a [.int .i64 id] (.bool q)) :
  FnV Tryz.prog 121 [(.clo a),(.fp (.agg [(.int .i64 id)]))] (.bool (!q)):=by
 refine A8 [.tmp 3] Tryz.func121 rfl Tryz.ntmps121 rfl rfl (fun B F hF=>?_)
 refine Ab [] [0,1] ?_
 refine Ac ?_
 refine An ?_
 refine B2 2 0 [] [4,5] [] hk0 v0 c0 ?_
 refine F9 (s':=[(4,(.clo a)),(5,(.int .i64 id)),(6,(.bool q))]) (a:=(.clo a)) (al:=[(.int .i64 id)]) (r:=(.bool q)) (by kernel_rfl) (by kernel_rfl) (by kernel_rfl) (by kernel_rfl) (by kernel_rfl) hf.clo (by kernel_rfl) ?_
 refine Au 3 [] [3] [] hk0 v0 c0 ?_
 refine Ag ?_
 refine RK wR [(.bool (!q))] ?_
 exact Same.of_eq (by first|rfl|(simp only[Ak];simp_all))
theorem X8b (l : List (AV × Bool)) (id : Int) (hl : l.length ≤ 4611686018427387904) (hf : ∀ i, i < l.length → FunV Tryz.prog (nth l i).1 [.int .i64 id] (.bool (nth l i).2)) :
  FnV Tryz.prog 119 [(.int .i64 id),(.fp (.agg [(Ae 1 G5 l)]))] (.bool (!l.any fun q => !q.2)):=by
 refine A8 [.tmp 3] Tryz.func119 rfl Tryz.ntmps119 rfl rfl (fun B F hF=>?_)
 refine Ab [] [1,2] ?_
 refine Ac ?_
 refine An ?_
 refine B2 2 0 [] [4,5] [] hk0 v0 c0 ?_
 refine Jt (s':=[(4,(Ae 1 G5 l)),(5,(.fn 121 [] [(.ptr 0 0)])),(6,(.bool (l.any fun q => !q.2)))]) (al:=[(Ae 1 G5 l),(.fn 121 [] [(.ptr 0 0)])]) (al':=[(Ae 1 G5 l),(.fn 121 [] [(.fp (.agg [(.int .i64 id)]))])]) (h':=[]) (r:=(.bool (l.any fun q => !q.2))) (by kernel_rfl) (by exact X59) (by kernel_rfl) (by kernel_rfl) ((X3n l (.fn 121 [] [.fp (.agg [.int .i64 id])]) (fun q => !q.2) hl (fun i hi=>FunV.of (by exact X58) (X8c (nth l i).1 (nth l i).2 id (hf i hi)))).of_args (ImpL.cons Imp.refl (ImpL.cons (Imp.clo rfl) ImpL.nil))) rfl (by kernel_rfl) ?_
 refine Au 3 [] [3] [] hk0 v0 c0 ?_
 refine Ag ?_
 refine RK wR [(.bool (!(l.any fun q => !q.2)))] ?_
 exact Same.of_eq (by first|rfl|(simp only[Ak];simp_all))
end Sv
end
section
open Go Go.RowKit
namespace Sv
attribute [local irreducible] SW SO Bs
set_option maxHeartbeats 1000000
set_option maxRecDepth 100000
noncomputable def Ck (m:Int→Int→List UInt8→Int→List UInt8→Bool × Int) (st:PoolT):Nat→DepT→AV
 |0,_ => .nilf
 |n+1,d=>if d.kind=1 then .fn 117 [] [.fp (.agg [Ah (Fg m st d false)])] else
  if d.kind=6 then .fn 118 [] [.fp (.agg [.row 1 ((d.args.map (Ck m st n)).map AV.clo).length (fun i=>((d.args.map (Ck m st n)).map AV.clo).getD i Br)])] else
  .fn 119 [] [.fp (.agg [.row 1 ((d.args.map (Ck m st n)).map AV.clo).length (fun i=>((d.args.map (Ck m st n)).map AV.clo).getD i Br)])]
theorem Q5q {m:Int→Int→List UInt8→Int→List UInt8→Bool × Int} {st:PoolT} {n:Nat} {d:DepT} (h:d.kind=1):Ck m st (n+1) d = .fn 117 [] [.fp (.agg [Ah (Fg m st d false)])]:=by unfold Ck;rw[if_pos h]
theorem Q5p {m:Int→Int→List UInt8→Int→List UInt8→Bool × Int} {st:PoolT} {n:Nat} {d:DepT} (h:d.kind=6):Ck m st (n+1) d = .fn 118 [] [.fp (.agg [.row 1 ((d.args.map (Ck m st n)).map AV.clo).length (fun i=>((d.args.map (Ck m st n)).map AV.clo).getD i Br)])]:=by unfold Ck;rw[if_neg (by omega),if_pos h]
theorem Q5r {m:Int→Int→List UInt8→Int→List UInt8→Bool × Int} {st:PoolT} {n:Nat} {d:DepT} (h1:¬d.kind=1) (h6:¬d.kind=6):Ck m st (n+1) d = .fn 119 [] [.fp (.agg [.row 1 ((d.args.map (Ck m st n)).map AV.clo).length (fun i=>((d.args.map (Ck m st n)).map AV.clo).getD i Br)])]:=by unfold Ck;rw[if_neg h1,if_neg h6]
theorem X79 {g:DepT→AV} {l:List DepT} {i:Nat} (h:i < l.length):((l.take (i+1)).map g).map AV.clo=((l.take i).map g).map AV.clo++[.clo (g (nth l i))]:=by
 rw[List.take_add_one,List.getElem?_eq_getElem h,List.map_append,List.map_append]
 simp[nth,h]
theorem X76 (m : Int → Int → List UInt8 → Int → List UInt8 → Bool × Int) (hM : I0 m) (st : PoolT) (hi : IdxOk st) (n : Nat) (d : DepT) (hd : d.size ≤ 4194304) (ih : ∀ i, i < d.args.length → FnV Tryz.prog 54 [(.fp (Be st)), (.agg [(.int .i64 ((nth d.args i).kind)), (.str ((nth d.args i).name)), (.int .i64 ((nth d.args i).op)), (.str ((nth d.args i).evr)), (.row 5 (nth d.args i).args.length (depAt (nth d.args i).args))])] (.clo (Ck m st n (nth d.args i)))) :
  FnV Tryz.prog 54 [(.fp (Be st)),(.agg [(.int .i64 d.kind),(.str d.name),(.int .i64 d.op),(.str d.evr),(.row 5 d.args.length (depAt d.args))])] (.clo (Ck m st (n+1) d)):=by
 have hda:=El d
 have hal:=Dw d.args
 refine A8 [.tmp 4] Tryz.func54 rfl Tryz.ntmps54 rfl rfl (fun B F hF=>?_)
 refine Af [] [0,3] [(1,3)] hk0 v0 c0 ?_
 refine Ac ?_
 refine Ab [] [0,3,11] ?_
 refine A5 (p:=d.kind=1) (by kernel_rfl) (fun c1=>?_) (fun c1=>?_)
 ·refine Af [] [5] [] (hk 2 Q22 (Q0m m hM st hi d false hd)<|hk0) v0 c0 ?_
  refine Ab [] [4] ?_
  refine Ag ?_
  refine RK wR [(.fn 117 [] [(.fp (.agg [(Ah (Fg m st d false))]))])] ?_
  simp only[Ak]
  rw[Q5q (by assumption)]
  exact(Imp.clo (by kernel_rfl)).same
 ·refine Ai ?_
  refine Ab [] [0,3,6] ?_
  refine Ac ?_
  refine Ab [] [0,3,6,17,18,19] ?_
  refine Ay ?_
  refine Wg 17 (Ae 5 Ao d.args) (by kernel_rfl) (Ew d.args) ?_
  refine M8 108 1 1 0 (y:=⟨[(0,(.fp (Be st))),(3,(.fp (.agg [(.int .i64 d.kind),(.str d.name),(.int .i64 d.op),(.str d.evr),(.row 5 d.args.length (depAt d.args))]))),(6,(.ptr 1 0)),(17,(Ae 5 Ao d.args)),(18,(.int .i64 ((d.args.length:Int)))),(19,(.int .i64 0))],[(1,(.row [(.own 2)] 162)),(2,(.grow [] 108 1))],3⟩) (by kernel_rfl) (by kernel_rfl) ?_
  refine Bz (fun g y=>∃(i:Nat),i≤d.args.length∧y=⟨[(0,(.fp (Be st))),(3,(.fp (.agg [(.int .i64 d.kind),(.str d.name),(.int .i64 d.op),(.str d.evr),(.row 5 d.args.length (depAt d.args))]))),(6,(.ptr 1 0)),(17,(Ae 5 Ao d.args)),(18,(.int .i64 ((d.args.length:Int)))),(19,(.int .i64 ((i:Int))))],[(1,(.row [(.own 2)] 162)),(2,(.grow (((d.args.take i).map (Ck m st n)).map AV.clo) 108 1))],3⟩∧g=d.args.length-i) [0,3,6,17,18,19] 3 _ (by omega) ⟨0,(by omega),(by kernel_rfl),rfl⟩ ?_
  rintro g1 y1 ⟨i,f1_1,rfl,rfl⟩
  have hgl:(((d.args.take i).map (Ck m st n)).map AV.clo).length≤4611686018:=by simp only[List.length_map,List.length_take];omega
  refine Ab [] [0,3,6,17,18,19,20] ?_
  refine Ac ?_
  refine A5 (p:=(i:Int) < (d.args.length:Int)) (by kernel_rfl) (fun c2=>?_) (fun c2=>?_)
  ·refine Ai ?_
   refine Dm (fun y=>y=⟨[(0,(.fp (Be st))),(3,(.fp (.agg [(.int .i64 d.kind),(.str d.name),(.int .i64 d.op),(.str d.evr),(.row 5 d.args.length (depAt d.args))]))),(6,(.ptr 1 0)),(17,(Ae 5 Ao d.args)),(18,(.int .i64 ((d.args.length:Int)))),(19,(.int .i64 ((i:Int))))],[(1,(.row [(.own 2)] 162)),(2,(.grow (((d.args.take (i+1)).map (Ck m st n)).map AV.clo) 108 1))],3⟩) [0,3,6,17,18,19] 3 (by omega) ?_ ?_
   ·refine Ay ?_
    refine Af [] [0,3,6,8,17,18,19] [] hk0 v0 (cc 0 (p:=(0≤(i:Int)∧i < d.args.length)) (by omega)<|c0) ?_
    refine Sa 8 (y:=⟨[(0,(.fp (Be st))),(3,(.fp (.agg [(.int .i64 d.kind),(.str d.name),(.int .i64 d.op),(.str d.evr),(.row 5 d.args.length (depAt d.args))]))),(6,(.ptr 1 0)),(8,(.fp (.agg [(.int .i64 ((nth d.args i).kind)),(.str ((nth d.args i).name)),(.int .i64 ((nth d.args i).op)),(.str ((nth d.args i).evr)),(.row 5 (nth d.args i).args.length (depAt (nth d.args i).args))]))),(17,(Ae 5 Ao d.args)),(18,(.int .i64 ((d.args.length:Int)))),(19,(.int .i64 ((i:Int))))],[(1,(.row [(.own 2)] 162)),(2,(.grow (((d.args.take i).map (Ck m st n)).map AV.clo) 108 1))],4⟩) (by kernel_rfl) ?_
    refine G9 [] [0,3,6,17,18,19] [] (hk 3 Q23 (ih i (by omega))<|hk0) v0 (cc 5 (p:=(((((d.args.take i).map (Ck m st n)).map AV.clo).length+1)*8≤140737488355328)) (by omega)<|c0) ?_
    refine⟨by kernel_rfl,(Eq.trans (b:=(⟨[(0,(.fp (Be st))),(3,(.fp (.agg [(.int .i64 d.kind),(.str d.name),(.int .i64 d.op),(.str d.evr),(.row 5 d.args.length (depAt d.args))]))),(6,(.ptr 1 0)),(17,(Ae 5 Ao d.args)),(18,(.int .i64 ((d.args.length:Int)))),(19,(.int .i64 ((i:Int))))],[(1,(.row [(.own 2)] 162)),(2,(.grow ((((d.args.take i).map (Ck m st n)).map AV.clo)++([(.clo (Ck m st n (nth d.args i)))]:List AV)) 108 1))],3⟩:St)) (by kernel_rfl) (by rw[show((((d.args.take i).map (Ck m st n)).map AV.clo)++([(.clo (Ck m st n (nth d.args i)))]:List AV))=((d.args.take (i+1)).map (Ck m st n)).map AV.clo from (X79 (g:=Ck m st n) (l:=d.args) (i:=i) (by omega)).symm]<;>kernel_rfl))⟩
   ·rintro y1 rfl
    refine An ?_
    refine Au 0 [] [0,3,6,17,18,19] [] hk0 v0 (cc 0 (p:=(-9223372036854775808≤(i:Int)+1∧(i:Int)+1≤9223372036854775807)) (by omega)<|c0) ?_
    refine⟨by kernel_rfl,_,?_,i+1,?_,(by kernel_rfl),rfl⟩
    ·omega
    ·omega
  ·refine Bp ?_
   refine Ac ?_
   refine Ab [] [6,32] ?_
   refine A5 (p:=d.kind=6) (by kernel_rfl) (fun c3=>?_) (fun c3=>?_)
   ·refine Ac ?_
    refine An ?_
    refine Kl 1 0 (y:=⟨[(6,(.ptr 1 0)),(32,(.bool (decide (d.kind=6))))],[(1,(.row [(.row 1 (((d.args.take i).map (Ck m st n)).map AV.clo).length (fun ix=>(((d.args.take i).map (Ck m st n)).map AV.clo).getD ix Br))] 162))],3⟩) (by kernel_rfl) ?_
    refine Ei [] [4] ?_
    refine Ag ?_
    refine RK wR [(.fn 118 [] [(.fp (.agg [(.row 1 (((d.args.take i).map (Ck m st n)).map AV.clo).length (fun ix=>(((d.args.take i).map (Ck m st n)).map AV.clo).getD ix Br))]))])] ?_
    rw[show i=d.args.length from by omega]
    simp only[Ak]
    rw[show d.args.take d.args.length=d.args from List.take_length]
    rw[Q5p (by assumption) ]
    exact(Imp.clo (by kernel_rfl)).same
   ·refine Ai ?_
    refine Ac ?_
    refine An ?_
    refine Kl 1 0 (y:=⟨[(6,(.ptr 1 0)),(32,(.bool (decide (d.kind=6))))],[(1,(.row [(.row 1 (((d.args.take i).map (Ck m st n)).map AV.clo).length (fun ix=>(((d.args.take i).map (Ck m st n)).map AV.clo).getD ix Br))] 162))],3⟩) (by kernel_rfl) ?_
    refine Ei [] [4] ?_
    refine Ag ?_
    refine RK wR [(.fn 119 [] [(.fp (.agg [(.row 1 (((d.args.take i).map (Ck m st n)).map AV.clo).length (fun ix=>(((d.args.take i).map (Ck m st n)).map AV.clo).getD ix Br))]))])] ?_
    rw[show i=d.args.length from by omega]
    simp only[Ak]
    rw[show d.args.take d.args.length=d.args from List.take_length]
    rw[Q5r (by assumption) (by assumption)]
    exact(Imp.clo (by kernel_rfl)).same
theorem X78 (m:Int→Int→List UInt8→Int→List UInt8→Bool × Int) (hM:I0 m) (st:PoolT) (hi:IdxOk st):∀(n:Nat) (d:DepT),d.size≤n→d.size≤4194304→FnV Tryz.prog 54 [(.fp (Be st)),(.agg [(.int .i64 (d.kind)),(.str (d.name)),(.int .i64 (d.op)),(.str (d.evr)),(.row 5 d.args.length (depAt d.args))])] (.clo (Ck m st n d)):=by
 intro n
 induction n with
 |zero=>intro d h;have:=El d;omega
 |succ n ih=>exact fun d h hd=>X76 m hM st hi n d hd fun i hj=>ih _ (by have h1:=Fl hj;omega) (by have h1:=Fl hj;omega)
end Sv
end
section
open Go Go.RowKit
namespace Sv
attribute [local irreducible] SW SO Bs
set_option maxHeartbeats 400000
set_option maxRecDepth 100000
theorem Mu:As Tryz.prog 60:=Az Tryz.func60 (by kernel_rfl) rfl
theorem X56:As Tryz.prog 125:=Az Tryz.func125 (by kernel_rfl) rfl
theorem X55:As Tryz.prog 126:=Az Tryz.func126 (by kernel_rfl) rfl
theorem Q0n {m:Int→Int→List UInt8→Int→List UInt8→Bool × Int} {st:PoolT} (hi:IdxOk st) {d:DepT} {own:Bool}:(Fg m st d own).length≤4611686018427387904:=by
 have h1:=Vw (D2 m st d own (Cm (Bu st.all st.all.length) d.name).length)
 have h2:=Uo (m:=m) (st:=st) (d:=d) (own:=own) (i:=(Cm (Bu st.all st.all.length) d.name).length)
 have h3:=hi.len d.name
 unfold Fg;omega
def woB:Nat→DepT→Bool
 |0,_=>true
 |n+1,d=>(!(decide (d.kind=6)||decide (d.kind=4))||decide (2≤d.args.length))&&d.args.all (woB n)
def Co (m:Int→Int→List UInt8→Int→List UInt8→Bool × Int) (st:PoolT):Nat→DepT→Int→Bool
 |0,_,_=>false
 |n+1,d,id=>if d.kind=1 then (Fg m st d false).any fun x=>decide (id=x) else
  if d.kind=6 then Co m st n (nth d.args 0) id&&!Co m st n (nth d.args 1) id else !(d.args.any fun a => !Co m st n a id)
theorem Wy {n:Nat} {d:DepT} (h:woB (n+1) d=true) (hk:d.kind=6∨d.kind=4):2≤d.args.length:=by
 unfold woB at h
 simp only[Bool.and_eq_true,Bool.or_eq_true,Bool.not_eq_true',Bool.or_eq_false_iff,decide_eq_true_eq,decide_eq_false_iff_not] at h
 rcases h.1 with h|h
 ·omega
 ·exact h
theorem Wz {n:Nat} {d:DepT} (h:woB (n+1) d=true) {i:Nat} (hi:i < d.args.length):woB n (nth d.args i)=true:=by
 unfold woB at h
 simp only[Bool.and_eq_true,List.all_eq_true] at h
 exact h.2 _ (by rw[Dy hi];exact List.getElem_mem hi)
theorem Q4q (g:DepT→AV) (q:DepT→Bool) (l:List DepT):Imp (.row 1 ((l.map g).map AV.clo).length (fun i=>((l.map g).map AV.clo).getD i Br)) (Ae 1 G5 (l.map fun a=>(g a,q a))):=by
 have e:(l.map g).map AV.clo=(l.map fun a=>(g a,q a)).map G5:=by rw[List.map_map,List.map_map];rfl
 rw[e];exact Imp.list (f:=G5) (List.length_map _)
theorem Ql {α β:Type} [Inhabited α] [Inhabited β] {g:α→β} {l:List α} {i:Nat} (h:i < l.length):nth (l.map g) i=g (nth l i):=by simp[nth,h]
theorem X8a (m:Int→Int→List UInt8→Int→List UInt8→Bool × Int) (hM:I0 m) (st:PoolT) (hi:IdxOk st) (id:Int):∀(n:Nat) (d:DepT),d.size≤n→d.size≤4194304→woB n d=true→FunV Tryz.prog (Ck m st n d) [.int .i64 id] (.bool (Co m st n d id)):=by
 intro n
 induction n with
 |zero=>intro d h;have:=El d;omega
 |succ n ih =>
  intro d h hd hw
  have hsa:=El d
  have hal:=Dw d.args
  have hf:∀i,i < (d.args.map fun a=>(Ck m st n a,Co m st n a id)).length→FunV Tryz.prog (nth (d.args.map fun a=>(Ck m st n a,Co m st n a id)) i).1 [.int .i64 id] (.bool (nth (d.args.map fun a=>(Ck m st n a,Co m st n a id)) i).2):=by
   intro i hj
   have hj:i < d.args.length:=by simpa using hj
   rw[Ql hj]
   have h1:=Fl hj
   exact ih _ (by omega) (by omega) (Wz hw hj)
  by_cases h1:d.kind=1
  ·rw[Q5q h1]
   have e:Co m st (n+1) d id=(Fg m st d false).any fun x=>decide (id=x):=by unfold Co;rw[if_pos h1]
   rw[e]
   exact FunV.of (by exact X6c) (X8e (Fg m st d false) id (Q0n hi))
  ·by_cases h6:d.kind=6
   ·have h2:=Wy hw (.inl h6)
    rw[Q5p h6]
    have e:Co m st (n+1) d id=((nth (d.args.map fun a=>(Ck m st n a,Co m st n a id)) 0).2&&!(nth (d.args.map fun a=>(Ck m st n a,Co m st n a id)) 1).2):=by
     rw[Ql (g:=fun a=>(Ck m st n a,Co m st n a id)) (l:=d.args) (i:=0) (by omega),Ql (g:=fun a=>(Ck m st n a,Co m st n a id)) (l:=d.args) (i:=1) (by omega)]
     conv=>lhs;unfold Co
     rw[if_neg h1,if_pos h6]
    rw[e]
    exact FunV.of (by exact X6b) ((X8d (d.args.map fun a=>(Ck m st n a,Co m st n a id)) id (by simpa using h2) hf).of_args (ImpL.cons Imp.refl (ImpL.cons (Imp.fp (Imp.aggs (ImpL.cons (Q4q _ _ _) ImpL.nil))) ImpL.nil)))
   ·rw[Q5r h1 h6]
    have e:Co m st (n+1) d id = !((d.args.map fun a=>(Ck m st n a,Co m st n a id)).any fun q => !q.2):=by
     rw[List.any_map]
     conv=>lhs;unfold Co
     rw[if_neg h1,if_neg h6];rfl
    rw[e]
    exact FunV.of (by exact X6a) ((X8b (d.args.map fun a=>(Ck m st n a,Co m st n a id)) id (by rw[List.length_map];omega) hf).of_args (ImpL.cons Imp.refl (ImpL.cons (Imp.fp (Imp.aggs (ImpL.cons (Q4q _ _ _) ImpL.nil))) ImpL.nil)))
def Ci (m:Int→Int→List UInt8→Int→List UInt8→Bool × Int) (st:PoolT) (s:List Int):Nat→DepT→Bool
 |0,_=>false
 |n+1,d=>if d.kind=2 then !(d.args.any fun a => !Ci m st s n a) else
  if d.kind=3 then d.args.any fun a=>Ci m st s n a else
  if d.kind=4 then (if Ci m st s n (nth d.args 1)=true then Ci m st s n (nth d.args 0) else decide ((d.args.length:Int) < 3)||Ci m st s n (nth d.args 2)) else
  s.any fun id=>Co m st (n+1) d id
end Sv
end
section
open Go Go.RowKit
namespace Sv
attribute [local irreducible] SW SO Bs
set_option maxHeartbeats 1000000
set_option maxRecDepth 100000
theorem Ud {m:Int→Int→List UInt8→Int→List UInt8→Bool × Int} {st:PoolT} {s:List Int} {n:Nat} {d:DepT} (h:d.kind=2):Ci m st s (n+1) d = !(d.args.any fun a => !Ci m st s n a):=by
 conv=>lhs;unfold Ci
 rw[if_pos h]
theorem Ub {m:Int→Int→List UInt8→Int→List UInt8→Bool × Int} {st:PoolT} {s:List Int} {n:Nat} {d:DepT} (h:d.kind=3):Ci m st s (n+1) d=d.args.any fun a=>Ci m st s n a:=by
 conv=>lhs;unfold Ci
 rw[if_neg (by omega),if_pos h]
theorem N7 {m:Int→Int→List UInt8→Int→List UInt8→Bool × Int} {st:PoolT} {s:List Int} {n:Nat} {d:DepT} (h:d.kind=4):Ci m st s (n+1) d=if Ci m st s n (nth d.args 1)=true then Ci m st s n (nth d.args 0) else decide ((d.args.length:Int) < 3)||Ci m st s n (nth d.args 2):=by
 conv=>lhs;unfold Ci
 rw[if_neg (by omega),if_neg (by omega),if_pos h]
theorem Uc {m:Int→Int→List UInt8→Int→List UInt8→Bool × Int} {st:PoolT} {s:List Int} {n:Nat} {d:DepT} (h2:¬d.kind=2) (h3:¬d.kind=3) (h4:¬d.kind=4):Ci m st s (n+1) d=s.any fun id=>Co m st (n+1) d id:=by
 conv=>lhs;unfold Ci
 rw[if_neg h2,if_neg h3,if_neg h4]
theorem X16 (st : PoolT) (s : List Int) (a : DepT) (q : Bool) (h : FnV Tryz.prog 60 [(.fp (Be st)), (.agg [(.int .i64 (a.kind)), (.str (a.name)), (.int .i64 (a.op)), (.str (a.evr)), (.row 5 a.args.length (depAt a.args))]), Ah s] (.bool q)) :
  FnV Tryz.prog 125 [(.agg [(.int .i64 a.kind),(.str a.name),(.int .i64 a.op),(.str a.evr),(.row 5 a.args.length (depAt a.args))]),(.fp (.agg [(.fp (Be st))])),(.fp (.agg [(Ah s)]))] (.bool (!q)):=by
 refine A8 [.tmp 4] Tryz.func125 rfl Tryz.ntmps125 rfl rfl (fun B F hF=>?_)
 refine Af [] [1,2,3] [(1,3)] hk0 v0 c0 ?_
 refine Af [] [4] [] (hk 3 Mu h<|hk0) v0 c0 ?_
 refine Ag ?_
 refine RK wR [(.bool (!q))] ?_
 exact Same.of_eq (by first|rfl|(simp only[Ak];simp_all))
theorem X15 (st : PoolT) (s : List Int) (a : DepT) (q : Bool) (h : FnV Tryz.prog 60 [(.fp (Be st)), (.agg [(.int .i64 (a.kind)), (.str (a.name)), (.int .i64 (a.op)), (.str (a.evr)), (.row 5 a.args.length (depAt a.args))]), Ah s] (.bool q)) :
  FnV Tryz.prog 126 [(.agg [(.int .i64 a.kind),(.str a.name),(.int .i64 a.op),(.str a.evr),(.row 5 a.args.length (depAt a.args))]),(.fp (.agg [(.fp (Be st))])),(.fp (.agg [(Ah s)]))] (.bool q):=by
 refine A8 [.tmp 4] Tryz.func126 rfl Tryz.ntmps126 rfl rfl (fun B F hF=>?_)
 refine Af [] [1,2,3] [(1,3)] hk0 v0 c0 ?_
 refine Af [] [4] [] (hk 3 Mu h<|hk0) v0 c0 ?_
 refine Ag ?_
 refine RK wR [(.bool q)] ?_
 exact Same.of_eq (by first|rfl|(simp only[Ak];simp_all))
theorem X10 (m : Int → Int → List UInt8 → Int → List UInt8 → Bool × Int) (hM : I0 m) (st : PoolT) (hi : IdxOk st) (s : List Int) (hs : s.length ≤ 4611686018427387904) (n : Nat) (d : DepT) (hd : d.size ≤ 4194304) (hn : d.size ≤ n + 1) (hw : woB (n + 1) d = true) (ih : ∀ i, i < d.args.length → FnV Tryz.prog 60 [(.fp (Be st)), (.agg [(.int .i64 ((nth d.args i).kind)), (.str ((nth d.args i).name)), (.int .i64 ((nth d.args i).op)), (.str ((nth d.args i).evr)), (.row 5 (nth d.args i).args.length (depAt (nth d.args i).args))]), Ah s] (.bool (Ci m st s n (nth d.args i)))) :
  FnV Tryz.prog 60 [(.fp (Be st)),(.agg [(.int .i64 d.kind),(.str d.name),(.int .i64 d.op),(.str d.evr),(.row 5 d.args.length (depAt d.args))]),(Ah s)] (.bool (Ci m st s (n+1) d)):=by
 have hda:=El d
 have hal:=Dw d.args
 refine A8 [.tmp 6] Tryz.func60 rfl Tryz.ntmps60 rfl rfl (fun B F hF=>?_)
 refine Ac ?_
 refine An ?_
 refine Fd 1 (.agg [(.int .i64 d.kind),(.str d.name),(.int .i64 d.op),(.str d.evr),(Ae 5 Ao d.args)]) (by kernel_rfl) (X6r d) ?_
 refine Au 0 [] [3,4,5] [(2,4)] hk0 v0 c0 ?_
 refine Ab [] [3,4,5,7] ?_
 refine Ac ?_
 refine Ab [] [3,4,5,7,10] ?_
 refine Ay ?_
 refine Ab [] [3,4,5,7,10,11] ?_
 refine A5 (p:=d.kind=2) (by kernel_rfl) (fun c1=>?_) (fun c1=>?_)
 ·refine Ac ?_
  refine An ?_
  refine B2 3 0 [] [14,15] [] hk0 v0 c0 ?_
  refine Jt (s':=[(14,(Ae 5 Ao d.args)),(15,(.fn 125 [] [(.ptr 0 0),(.ptr 2 0)])),(16,(.bool (d.args.any fun a => !Ci m st s n a)))]) (al:=[(Ae 5 Ao d.args),(.fn 125 [] [(.ptr 0 0),(.ptr 2 0)])]) (al':=[(Ae 5 Ao d.args),(.fn 125 [] [(.fp (.agg [(.fp (Be st))])),(.fp (.agg [(Ah s)]))])]) (h':=[]) (r:=(.bool (d.args.any fun a => !Ci m st s n a))) (by kernel_rfl) (by exact Q9) (by kernel_rfl) (by kernel_rfl) ((Rq d.args (.fn 125 [] [.fp (.agg [.fp (Be st)]),.fp (.agg [Ah s])]) (fun a => !Ci m st s n a) (by omega) (fun i hj=>FunV.of (by exact X56) (X16 st s (nth d.args i) (Ci m st s n (nth d.args i)) (ih i hj)))).of_args (ImpL.cons Imp.refl (ImpL.cons (Imp.clo (by kernel_rfl)) ImpL.nil))) rfl (by kernel_rfl) ?_
  refine Au 4 [] [6] [] hk0 v0 c0 ?_
  refine Ag ?_
  refine RK wR [(.bool (!(d.args.any fun a => !Ci m st s n a)))] ?_
  exact Same.of_eq (by simp only[Ak];rw[Ud (by assumption)])
 ·refine Ab [] [3,4,5,10,18] ?_
  refine A5 (p:=d.kind=3) (by kernel_rfl) (fun c2=>?_) (fun c2=>?_)
  ·refine Ac ?_
   refine An ?_
   refine B2 3 0 [] [21,22] [] hk0 v0 c0 ?_
   refine Jt (s':=[(21,(Ae 5 Ao d.args)),(22,(.fn 126 [] [(.ptr 0 0),(.ptr 2 0)])),(23,(.bool (d.args.any fun a=>Ci m st s n a)))]) (al:=[(Ae 5 Ao d.args),(.fn 126 [] [(.ptr 0 0),(.ptr 2 0)])]) (al':=[(Ae 5 Ao d.args),(.fn 126 [] [(.fp (.agg [(.fp (Be st))])),(.fp (.agg [(Ah s)]))])]) (h':=[]) (r:=(.bool (d.args.any fun a=>Ci m st s n a))) (by kernel_rfl) (by exact Q9) (by kernel_rfl) (by kernel_rfl) ((Rq d.args (.fn 126 [] [.fp (.agg [.fp (Be st)]),.fp (.agg [Ah s])]) (fun a=>Ci m st s n a) (by omega) (fun i hj=>FunV.of (by exact X55) (X15 st s (nth d.args i) (Ci m st s n (nth d.args i)) (ih i hj)))).of_args (ImpL.cons Imp.refl (ImpL.cons (Imp.clo (by kernel_rfl)) ImpL.nil))) rfl (by kernel_rfl) ?_
   refine Au 4 [] [6] [] hk0 v0 c0 ?_
   refine Ag ?_
   refine RK wR [(.bool (d.args.any fun a=>Ci m st s n a))] ?_
   exact Same.of_eq (by simp only[Ak];rw[Ub (by assumption)])
  ·refine Ab [] [3,4,5,24] ?_
   refine A5 (p:=d.kind=4) (by kernel_rfl) (fun c3=>?_) (fun c3=>?_)
   ·have h2:=Wy hw (.inr c3)
    refine Ac ?_
    refine Cr [] [3,4,5,32] [] (hk 6 Mu (ih 1 (by omega))<|hk0) v0 (cc 3 (p:=(0≤(1:Int)∧1 < d.args.length)) (by omega)<|c0) ?_
    refine Bd (q:=Ci m st s n (nth d.args 1)) (by kernel_rfl) (fun c4=>?_) (fun c4=>?_)
    ·try simp only[Am] at c4
     refine Cr [] [6] [] (hk 6 Mu (ih 0 (by omega))<|hk0) v0 (cc 3 (p:=(0≤(0:Int)∧0 < d.args.length)) (by omega)<|c0) ?_
     refine Ag ?_
     refine RK wR [(.bool (Ci m st s n (nth d.args 0)))] ?_
     exact Same.of_eq (by simp only[Ak];rw[N7 (by assumption),if_pos (by assumption)])
    ·try simp only[Am] at c4
     refine Ai ?_
     refine Cr (CS:=[(7,((!(decide ((d.args.length:Int) < 3)))=true→(!(decide ((d.args.length:Int) < 3)))=true)),(8,((!(decide ((d.args.length:Int) < 3)))=true→((!(decide ((d.args.length:Int) < 3)))=true)∧(0≤(2:Int)∧2 < d.args.length))),(9,((!(decide ((d.args.length:Int) < 3)))=true→(!(decide ((d.args.length:Int) < 3)))=true)),(11,(!(decide ((d.args.length:Int) < 3)))=true→(!(decide ((d.args.length:Int) < 3)))=true∧(!(decide ((d.args.length:Int) < 3)))=true∧(!(decide ((d.args.length:Int) < 3)))=true),(12,((decide ((d.args.length:Int) < 3))=false→(!(decide ((d.args.length:Int) < 3)))=true))]) [45,46,47,48,49,50] [6] [] (hkg 11 (!(decide ((d.args.length:Int) < 3))) Mu (fun cg=>ih 2 (by simp at cg;omega))<|hk0) v0 (by refine cc _ ?_<|cc _ ?_<|cc _ ?_<|cc _ ?_<|cc _ ?_ c0<;>first|omega|(simp;omega)|(simp;done)|(intros;simp_all;omega)|(intros;simp_all;done)) ?_
     refine Ag ?_
     refine RK wR [(.bool ((decide ((d.args.length:Int) < 3))||(Ci m st s n (nth d.args 2))))] ?_
     exact Same.of_eq (by simp only[Ak];rw[N7 (by assumption),if_neg (by simp_all)])
   ·refine Ai ?_
    refine Cr [] [6] [] (hk 3 (al:=[(.fp (Be st)),(.agg [(.int .i64 d.kind),(.str d.name),(.int .i64 d.op),(.str d.evr),(Ae 5 Ao d.args)])]) Q23 ((X78 m hM st hi (n+1) d hn hd).of_args (ImpL.cons Imp.refl (ImpL.cons (Q4g d) ImpL.nil)))<|hk 4 Rd (Qv s (Ck m st (n+1) d) (fun id=>Co m st (n+1) d id) hs (fun i hj=>X8a m hM st hi (nth s i) (n+1) d hn hd hw))<|hk0) v0 c0 ?_
    refine Ag ?_
    refine RK wR [(.bool (s.any fun id=>Co m st (n+1) d id))] ?_
    exact Same.of_eq (by simp only[Ak];rw[Uc (by assumption) (by assumption) (by assumption)])
theorem X11 (m:Int→Int→List UInt8→Int→List UInt8→Bool × Int) (hM:I0 m) (st:PoolT) (hi:IdxOk st) (s:List Int) (hs:s.length≤4611686018427387904):∀(n:Nat) (d:DepT),d.size≤n→d.size≤4194304→woB n d=true→FnV Tryz.prog 60 [(.fp (Be st)),(.agg [(.int .i64 (d.kind)),(.str (d.name)),(.int .i64 (d.op)),(.str (d.evr)),(.row 5 d.args.length (depAt d.args))]),Ah s] (.bool (Ci m st s n d)):=by
 intro n
 induction n with
 |zero=>intro d h;have:=El d;omega
 |succ n ih=>exact fun d h hd hw=>X10 m hM st hi s hs n d hd h hw fun i hj=>ih _ (by have h1:=Fl hj;omega) (by have h1:=Fl hj;omega) (Wz hw hj)
end Sv
end
section
open Go Go.RowKit
namespace Sv
attribute [local irreducible] SW SO Bs
set_option maxHeartbeats 1000000
set_option maxRecDepth 100000
theorem Q24:As Tryz.prog 52:=Az Tryz.func52 (by kernel_rfl) rfl
theorem X5u:As Tryz.prog 15:=Az Tryz.func15 (by kernel_rfl) rfl
theorem X4r:As Tryz.prog 57:=Az Tryz.func57 (by kernel_rfl) rfl
theorem X4q:As Tryz.prog 59:=Az Tryz.func59 (by kernel_rfl) rfl
theorem Q63:∀(n:Nat) (d:DepT),Cq d=true→woB n d=true:=by
 intro n
 induction n with
 |zero=>exact fun _ _=>rfl
 |succ n ih =>
  intro d h
  obtain⟨k,nm,op,ev,args⟩:=d
  have all:∀(k:Int) (l:List DepT),argsForm k l=true→l.all (woB n)=true:=by
   intro k l
   induction l with
   |nil=>exact fun _=>rfl
   |cons a l ihl =>
    intro q
    simp only[argsForm,Bool.and_eq_true] at q
    rw[List.all_cons,ih a q.2.1,ihl q.2.2];rfl
  unfold Cq at h
  unfold woB
  by_cases hk:k=1
  ·rw[if_pos hk] at h
   have h0:args.length=0:=by
    by_cases q:B1 nm=true∧0≤op∧op≤7∧args.length=0
    ·exact q.2.2.2
    ·rw[Ut q] at h;cases h
   obtain rfl:=List.length_eq_zero_iff.1 h0
   subst hk
   rfl
  ·rw[if_neg hk] at h
   simp only[Bool.and_eq_true,Bool.not_eq_true',Gj,decide_eq_false_iff_not] at h
   have h2:2≤args.length:=by
    have:=h.1
    simp only[not_or] at this
    omega
   show((!(decide (k=6)||decide (k=4))||decide (2≤args.length))&&args.all (woB n))=true
   rw[decide_eq_true h2,Bool.or_true,all k args h.2];rfl
theorem Q4r {d:DepT} (h:Cu d=0):Cq d=true:=by
 unfold Cu at h
 cases hq:Cq d with
 |true=>rfl
 |false=>rw[hq] at h;simp at h
def Ff (d:DepT) (q:Bool):Int:=if Cu d=0 then (if q=true then 0 else 70) else Cu d
def C6 (m:Int→Int→List UInt8→Int→List UInt8→Bool × Int) (st:PoolT) (d:DepT) (s:List Int):Bool × Int :=
 if Cu d=0 then (if s.any (fun id=>decide (id < 0)||decide ((st.all.length:Int)≤id))=true then (false,69) else (Ci m st s d.size d,0)) else (false,Cu d)
theorem Ya (st : PoolT) (d : DepT) (a : AV) (q : Bool) (hd : d.size ≤ 4194304) (ha : FunV Tryz.prog a [.int .i64 d.kind] (.bool q)) :
  FnV Tryz.prog 52 [(.fp (Be st)),(.agg [(.int .i64 d.kind),(.str d.name),(.int .i64 d.op),(.str d.evr),(.row 5 d.args.length (depAt d.args))]),(.clo a)] (.int .i64 (Ff d q)):=by
 refine A8 [.tmp 6] Tryz.func52 rfl Tryz.ntmps52 rfl rfl (fun B F hF=>?_)
 refine Af [] [0,2,4] [(1,4)] hk0 v0 c0 ?_
 refine Ac ?_
 refine Ab [] [2,4,9] ?_
 refine Fc (by kernel_rfl) ?_
 refine Ai ?_
 refine Ac ?_
 refine Af [] [2,4,7] [] (hk 1 U3 (Q6v d hd)<|hk0) v0 c0 ?_
 refine Ab [] [2,4,7,13] ?_
 refine Da (p:=(Cu d)=0) (by kernel_rfl) (fun c1=>?_) (fun c1=>?_)
 ·refine Ab [] [6] ?_
  refine Ag ?_
  refine RK wR [(.int .i64 (Cu d))] ?_
  exact Same.of_eq (by simp only[Ak];unfold Ff;rw[if_neg (by assumption)])
 ·refine Ai ?_
  refine Ac ?_
  refine Ac ?_
  refine An ?_
  refine B2 3 0 [] [15,17] [] hk0 v0 c0 ?_
  refine F9 (s':=[(15,(.clo a)),(17,(.int .i64 d.kind)),(18,(.bool q))]) (a:=(.clo a)) (al:=[(.int .i64 d.kind)]) (r:=(.bool q)) (by kernel_rfl) (by kernel_rfl) (by kernel_rfl) (by kernel_rfl) (by kernel_rfl) ha.clo (by kernel_rfl) ?_
  refine Au 4 [] [19] [] hk0 v0 c0 ?_
  refine Bd (q:=!q) (by kernel_rfl) (fun c2=>?_) (fun c2=>?_)
  ·try simp only[Am] at c2
   refine Ab [] [6] ?_
   refine Ag ?_
   refine RK wR [(.int .i64 70)] ?_
   exact Same.of_eq (by simp only[Ak];unfold Ff;rw[if_pos (by omega),if_neg (by simp_all)])
  ·try simp only[Am] at c2
   refine Ai ?_
   refine Ab [] [6] ?_
   refine Ag ?_
   refine RK wR [(.int .i64 0)] ?_
   exact Same.of_eq (by simp only[Ak];unfold Ff;rw[if_pos (by omega),if_pos (by simp_all)])
theorem X12 (k : Int) :
  FnV Tryz.prog 57 [(.int .i64 k)] (.bool true):=by
 refine A8 [.tmp 2] Tryz.func57 rfl Tryz.ntmps57 rfl rfl (fun B F hF=>?_)
 refine Ab [] [] ?_
 refine Ab [] [2] ?_
 refine Ag ?_
 refine RK wR [(.bool true)] ?_
 exact Same.of_eq (by first|rfl|(simp only[Ak];simp_all))
theorem X14 (st : PoolT) (id : Int) :
  FnV Tryz.prog 59 [(.int .i64 id),(.fp (.agg [(.fp (Be st))]))] (.bool (decide (id < 0)||decide ((st.all.length:Int)≤id))):=by
 refine A8 [.tmp 3] Tryz.func59 rfl Tryz.ntmps59 rfl rfl (fun B F hF=>?_)
 refine Ab [] [0,1] ?_
 obtain⟨b1,hb1⟩:∃b,b=(decide (id < 0)):=⟨_,rfl⟩
 refine Af (CS:=[(5,((!b1)=true→(!b1)=true)),(6,((!b1)=true→(!b1)=true)),(7,((!b1)=true→(!b1)=true)),(8,((!b1)=true→(!b1)=true∧(!b1)=true)),(9,(b1=false→(!b1)=true))]) [7,8,9,10,11,12] [3] [] hk0 (vk 3 6 (a:=.bool (decide (id < 0))) (b:=.bool b1) (Imp.of_eq (by rw[hb1]))<|v0) (by refine cc _ ?_<|cc _ ?_<|cc _ ?_<|cc _ ?_<|cc _ ?_ c0<;>simp) ?_
 refine Ag ?_
 refine RK wR [(.bool (b1||(decide ((st.all.length:Int)≤id))))] ?_
 subst hb1
 exact Same.of_eq (by first|rfl|(simp only[Ak];simp_all))
theorem X90 (m : Int → Int → List UInt8 → Int → List UInt8 → Bool × Int) (hM : I0 m) (st : PoolT) (hi : IdxOk st) (d : DepT) (s : List Int) (hd : d.size ≤ 4194304) (hs : s.length ≤ 4611686018427387904) :
  FnV Tryz.prog 15 [(.fp (Be st)),(.agg [(.int .i64 d.kind),(.str d.name),(.int .i64 d.op),(.str d.evr),(.row 5 d.args.length (depAt d.args))]),(Ah s)] (.tup [.bool (C6 m st d s).1,.int .i64 (C6 m st d s).2]):=by
 refine A8 [.tmp 6,.tmp 7] Tryz.func15 rfl Tryz.ntmps15 rfl rfl (fun B F hF=>?_)
 refine Af [] [2,3,4] [(2,4)] hk0 v0 c0 ?_
 refine Ac ?_
 refine Af [] [2,3,4,8] [] (hk 2 (al:=[(.fp (Be st)),(.agg [(.int .i64 d.kind),(.str d.name),(.int .i64 d.op),(.str d.evr),(.row 5 d.args.length (depAt d.args))]),(.fn 57 [] [])]) Q24 ((Ya st d (.fn 57 [] []) true hd (FunV.of (by exact X4r) (X12 d.kind))).of_args (ImpL.cons Imp.refl (ImpL.cons Imp.refl (ImpL.cons (Imp.clo rfl) ImpL.nil))))<|hk0) v0 c0 ?_
 refine Ab [] [2,3,4,8,13] ?_
 refine Da (p:=(Ff d true)=0) (by kernel_rfl) (fun c1=>?_) (fun c1=>?_)
 ·refine Ab [] [6,7] ?_
  refine Ag ?_
  refine RK wR [(.bool false),(.int .i64 (Ff d true))] ?_
  have hc:¬Cu d=0:=by
   intro q
   have hr:Ff d true=0:=by unfold Ff;rw[if_pos q,if_pos rfl]
   omega
  exact Same.of_eq (by simp only[Ak];unfold C6 Ff;rw[if_neg hc,if_neg hc])
 ·have hc0 : Cu d = 0 := by
   by_cases q:Cu d=0
   ·exact q
   ·have hr:Ff d true=Cu d:=by unfold Ff;rw[if_neg q]
    omega
  refine Ai ?_
  refine Ac ?_
  refine Ac ?_
  refine An ?_
  refine B2 2 0 [] [2,3,4,15,16] [] hk0 v0 c0 ?_
  refine Jt (s':=[(2,(Ah s)),(3,(.ptr 0 0)),(4,(.fp (.agg [(.int .i64 d.kind),(.str d.name),(.int .i64 d.op),(.str d.evr),(.row 5 d.args.length (depAt d.args))]))),(15,(Ah s)),(16,(.fn 59 [] [(.ptr 0 0)])),(17,(.bool (s.any fun id=>decide (id < 0)||decide ((st.all.length:Int)≤id))))]) (al:=[(Ah s),(.fn 59 [] [(.ptr 0 0)])]) (al':=[(Ah s),(.fn 59 [] [(.fp (.agg [(.fp (Be st))]))])]) (h':=[]) (r:=(.bool (s.any fun id=>decide (id < 0)||decide ((st.all.length:Int)≤id)))) (by kernel_rfl) (by exact Rd) (by kernel_rfl) (by kernel_rfl) ((Qv s (.fn 59 [] [.fp (.agg [.fp (Be st)])]) (fun id=>decide (id < 0)||decide ((st.all.length:Int)≤id)) hs (fun i hj=>FunV.of (by exact X4q) (X14 st (nth s i)))).of_args (ImpL.cons Imp.refl (ImpL.cons (Imp.clo (by kernel_rfl)) ImpL.nil))) rfl (by kernel_rfl) ?_
  refine Cd ?_
  refine Bd (q:=s.any fun id=>decide (id < 0)||decide ((st.all.length:Int)≤id)) (by kernel_rfl) (fun c2=>?_) (fun c2=>?_)
  ·try simp only[Am] at c2
   refine Ab [] [6,7] ?_
   refine Ag ?_
   refine RK wR [(.bool false),(.int .i64 69)] ?_
   exact Same.of_eq (by simp only[Ak];unfold C6;rw[if_pos hc0,if_pos (by assumption)])
  ·try simp only[Am] at c2
   refine Ai ?_
   refine Af [] [6,7] [] (hk 3 Mu (X11 m hM st hi s hs d.size d (Nat.le_refl _) hd (Q63 _ _ (Q4r hc0)))<|hk0) v0 c0 ?_
   refine Ag ?_
   refine RK wR [(.bool (Ci m st s d.size d)),(.int .i64 0)] ?_
   exact Same.of_eq (by simp only[Ak];unfold C6;rw[if_pos hc0,if_neg (by simp_all)])
end Sv
end
section
open Go Go.RowKit
namespace Sv
attribute [local irreducible] SW SO Bs
set_option maxHeartbeats 1000000
set_option maxRecDepth 100000
theorem X5x:As Tryz.prog 14:=Az Tryz.func14 (by kernel_rfl) rfl
theorem X4s:As Tryz.prog 55:=Az Tryz.func55 (by kernel_rfl) rfl
def H7 (k:Int):Bool:=decide (k=1)||(decide (k=5)||decide (k=6))
def E5 (m:Int→Int→List UInt8→Int→List UInt8→Bool × Int) (st:PoolT) (d:DepT):List Int × Int:=if Ff d (decide (d.kind=1))=0 then (Fg m st d true,0) else ([],Ff d (decide (d.kind=1)))
theorem X1c (k : Int) :
  FnV Tryz.prog 55 [(.int .i64 k)] (.bool (decide (k=1))):=by
 refine A8 [.tmp 2] Tryz.func55 rfl Tryz.ntmps55 rfl rfl (fun B F hF=>?_)
 refine Ab [] [0] ?_
 refine Ab [] [2] ?_
 refine Ag ?_
 refine RK wR [(.bool (decide (k=1)))] ?_
 exact Same.of_eq (by first|rfl|(simp only[Ak];simp_all))
theorem X9z (m : Int → Int → List UInt8 → Int → List UInt8 → Bool × Int) (hM : I0 m) (st : PoolT) (hi : IdxOk st) (d : DepT) (hd : d.size ≤ 4194304) :
  FnV Tryz.prog 14 [(.fp (Be st)),(.agg [(.int .i64 d.kind),(.str d.name),(.int .i64 d.op),(.str d.evr),(.row 5 d.args.length (depAt d.args))])] (.tup [Ah (E5 m st d).1,.int .i64 (E5 m st d).2]):=by
 refine A8 [.tmp 4,.tmp 5] Tryz.func14 rfl Tryz.ntmps14 rfl rfl (fun B F hF=>?_)
 refine Af [] [0,3] [(1,3)] hk0 v0 c0 ?_
 refine Ac ?_
 refine Af [] [0,3,6] [] (hk 2 (al:=[(.fp (Be st)),(.agg [(.int .i64 d.kind),(.str d.name),(.int .i64 d.op),(.str d.evr),(.row 5 d.args.length (depAt d.args))]),(.fn 55 [] [])]) Q24 ((Ya st d (.fn 55 [] []) (decide (d.kind=1)) hd (FunV.of (by exact X4s) (X1c d.kind))).of_args (ImpL.cons Imp.refl (ImpL.cons Imp.refl (ImpL.cons (Imp.clo rfl) ImpL.nil))))<|hk0) v0 c0 ?_
 refine Ab [] [0,3,6,11] ?_
 refine Da (p:=(Ff d (decide (d.kind=1)))=0) (by kernel_rfl) (fun c1=>?_) (fun c1=>?_)
 ·refine Ab [] [4,5] ?_
  refine Ag ?_
  refine RK wR [.nils,(.int .i64 (Ff d (decide (d.kind=1))))] ?_
  simp only[Ak]
  rw[show E5 m st d=([],Ff d (decide (d.kind=1))) from by unfold E5;rw[if_neg (by assumption)]]
  exact(Imp.tups (ImpL.cons Imp.nil (ImpL.cons Imp.refl ImpL.nil))).same
 ·refine Ai ?_
  refine Af [] [4,5] [] (hk 2 Q22 (Q0m m hM st hi d true hd)<|hk0) v0 c0 ?_
  refine Ag ?_
  refine RK wR [(Ah (Fg m st d true)),(.int .i64 0)] ?_
  exact Same.of_eq (by simp only[Ak];unfold E5;rw[if_pos (by omega)])
end Sv
end
section
open Go Go.RowKit
namespace Sv
attribute [local irreducible] SW SO Bs
set_option maxHeartbeats 1000000
set_option maxRecDepth 100000
theorem Vd:As Tryz.prog 213:=Az Tryz.func213 (by kernel_rfl) rfl
theorem Rj:As Tryz.prog 142:=Az Tryz.func142 (by kernel_rfl) rfl
theorem Q3g:As Tryz.prog 239:=Az Tryz.func239 (by kernel_rfl) rfl
theorem Vf:As Tryz.prog 145:=Az Tryz.func145 (by kernel_rfl) rfl
theorem Q3l:As Tryz.prog 214:=Az Tryz.func214 (by kernel_rfl) rfl
theorem Ve:As Tryz.prog 177:=Az Tryz.func177 (by kernel_rfl) rfl
theorem Q3s:As Tryz.prog 178:=Az Tryz.func178 (by kernel_rfl) rfl
def C7 (a b:Int):Int:=if a < b then -1 else if b < a then 1 else 0
def orI (a b:Int):Int:=if a=0 then b else a
def C3 (a b:List UInt8):Int:=orI (C7 ((Lib.trimLeftB a 48).length:Int) ((Lib.trimLeftB b 48).length:Int)) (Lib.compareBytes (Lib.trimLeftB a 48) (Lib.trimLeftB b 48))
theorem Pe {s:List UInt8} (h:B4 s≠0):1≤s.length:=by
 cases s with
 |nil=>exact absurd (by unfold B4;rw[if_pos (.inl rfl)]) h
 |cons a r=>simp
theorem Ly {s:List UInt8} (h:B4 s=0):s.length=0∨1≤Ar Aq s:=by
 cases s with
 |nil=>exact .inl rfl
 |cons a r =>
  right
  unfold B4 at h
  have hb:Aj (a::r) 0=a:=by simp[Aj]
  rw[hb] at h
  by_cases hd:Aq a=true
  ·unfold Ar;rw[List.takeWhile_cons,hd];simp
  ·rw[if_neg (by simp[hd])] at h
   split at h
   ·omega
   ·split at h
    ·rename_i hl
     have:a.toNat=0:=by omega
     unfold B7 at hl;rw[this] at hl;simp at hl
    ·omega
theorem Q4a {s:List UInt8} {i:Nat} (h:¬s.drop i=[]):1≤s.length-i:=by
 have:=List.length_pos_iff.2 h
 rw[List.length_drop] at this;exact this
def Dq:Nat→List UInt8→List UInt8→Int
 |0,_,_=>0
 |n+1,a,b =>
  if B4 a≠0∨B4 b≠0 then (if B4 a≠B4 b then C7 (B4 a) (B4 b) else Dq n (a.drop 1) (b.drop 1))
  else if C3 (a.take (Ar Aq a)) (b.take (Ar Aq b))≠0 then C3 (a.take (Ar Aq a)) (b.take (Ar Aq b))
  else if a.drop (Ar Aq a)≠[]∨b.drop (Ar Aq b)≠[] then Dq n (a.drop (Ar Aq a)) (b.drop (Ar Aq b)) else 0
theorem Q1g (x : Int) :
  FnV Tryz.prog 239 [(.int .i64 x)] (.bool false):=by
 refine A8 [.tmp 2] Tryz.func239 rfl Tryz.ntmps239 rfl rfl (fun B F hF=>?_)
 refine Ab [] [0] ?_
 refine Ab [] [2] ?_
 refine Ag ?_
 refine RK wR [(.bool (!decide (x=x)))] ?_
 exact Same.of_eq (by simp only[Ak];simp)
theorem Vx (x y : Int) :
  FnV Tryz.prog 213 [(.int .i64 x),(.int .i64 y)] (.int .i64 (C7 x y)):=by
 refine A8 [.tmp 4] Tryz.func213 rfl Tryz.ntmps213 rfl rfl (fun B F hF=>?_)
 refine Ab [] [0,1] ?_
 refine Af [] [0,1,5] [] (hk 1 Q3g (Q1g x)<|hk0) v0 c0 ?_
 refine Af [] [0,1,5,6] [] (hk 1 Q3g (Q1g y)<|hk0) v0 c0 ?_
 refine Ac ?_
 refine Ab [] [0,1,6,11] ?_
 refine Fc (by kernel_rfl) ?_
 refine Ai ?_
 refine Ac ?_
 refine Ab [] [0,1,13] ?_
 refine Fc (by kernel_rfl) ?_
 refine Ai ?_
 refine Ac ?_
 refine Ab [] [0,1,16] ?_
 refine A5 (p:=x < y) (by kernel_rfl) (fun c1=>?_) (fun c1=>?_)
 ·refine Ab [] [4] ?_
  refine Ag ?_
  refine RK wR [(.int .i64 (-1))] ?_
  exact Same.of_eq (by simp only[Ak];unfold C7;rw[if_pos (by assumption)])
 ·refine Ai ?_
  refine Ac ?_
  refine Ab [] [19] ?_
  refine A5 (p:=y < x) (by kernel_rfl) (fun c2=>?_) (fun c2=>?_)
  ·refine Ab [] [4] ?_
   refine Ag ?_
   refine RK wR [(.int .i64 1)] ?_
   exact Same.of_eq (by simp only[Ak];unfold C7;rw[if_neg (by assumption),if_pos (by assumption)])
  ·refine Ai ?_
   refine Ab [] [4] ?_
   refine Ag ?_
   refine RK wR [(.int .i64 0)] ?_
   exact Same.of_eq (by simp only[Ak];unfold C7;rw[if_neg (by assumption),if_neg (by assumption)])
theorem Qg (x y : Int) :
  FnV Tryz.prog 142 [(Ah [x,y])] (.int .i64 (orI x y)):=by
 refine A8 [.tmp 2] Tryz.func142 rfl Tryz.ntmps142 rfl rfl (fun B F hF=>?_)
 refine Ab [] [0] ?_
 refine Ab [] [0,3] ?_
 refine Ac ?_
 refine Ab [] [3,6,7,8] ?_
 refine Ay ?_
 refine Sb 3 ?_
 refine F8 ?_
 refine Ab [] [3,6,7,8,9] ?_
 refine Ac ?_
 refine G8 (by kernel_rfl) ?_
 refine Ai ?_
 refine Ac ?_
 refine Ay ?_
 refine Af [] [3,5,6,7,8] [] hk0 v0 (cc 0 (p:=(0≤(0:Int)∧0 < 2)) (by omega)<|c0) ?_
 refine Ab [] [3,5,6,7,8,14] ?_
 refine Da (p:=x=0) (by kernel_rfl) (fun c1=>?_) (fun c1=>?_)
 ·refine Ab [] [2] ?_
  refine Ag ?_
  refine RK wR [(.int .i64 x)] ?_
  exact Same.of_eq (by simp only[Ak];unfold orI;rw[if_neg (by assumption)])
 ·refine Ai ?_
  refine An ?_
  refine Au 0 [] [3,6,7,8] [] hk0 v0 (cc 0 (p:=(-9223372036854775808≤(1:Int)∧(1:Int)≤9223372036854775807)) (by omega)<|c0) ?_
  refine F8 ?_
  refine Ab [] [3,6,7,8,9] ?_
  refine Ac ?_
  refine G8 (by kernel_rfl) ?_
  refine Ai ?_
  refine Ac ?_
  refine Ay ?_
  refine Af [] [3,5,6,7,8] [] hk0 v0 (cc 0 (p:=(0≤(1:Int)∧1 < 2)) (by omega)<|c0) ?_
  refine Ab [] [3,5,6,7,8,14] ?_
  refine Da (p:=y=0) (by kernel_rfl) (fun c2=>?_) (fun c2=>?_)
  ·refine Ab [] [2] ?_
   refine Ag ?_
   refine RK wR [(.int .i64 y)] ?_
   exact Same.of_eq (by simp only[Ak];unfold orI;rw[if_pos (by simp_all)]<;>rfl)
  ·refine Ai ?_
   refine An ?_
   refine Au 0 [] [3,6,7,8] [] hk0 v0 (cc 0 (p:=(-9223372036854775808≤(2:Int)∧(2:Int)≤9223372036854775807)) (by omega)<|c0) ?_
   refine F8 ?_
   refine Ab [] [3,6,7,8,9] ?_
   refine Ac ?_
   refine Fc (by kernel_rfl) ?_
   refine Bp ?_
   refine Ab [] [2] ?_
   refine Ag ?_
   refine RK wR [(.int .i64 0)] ?_
   exact Same.of_eq (by simp only[Ak];unfold orI;rw[if_pos (by simp_all)]<;>simp_all)
theorem T1 (a b : List UInt8) :
  FnV Tryz.prog 177 [(.str a),(.str b)] (.int .i64 (C3 a b)):=by
 refine A8 [.tmp 4] Tryz.func177 rfl Tryz.ntmps177 rfl rfl (fun B F hF=>?_)
 refine Ab [] [0,1] ?_
 refine Af [] [0,1] [] (hk 1 Vf (Q58 a 48 (by decide))<|hk 3 Vf (Q58 b 48 (by decide))<|hk0) v0 c0 ?_
 refine Af [] [4] [(9,17)] (hk 4 Vd (Vx ((Lib.trimLeftB a 48).length:Int) ((Lib.trimLeftB b 48).length:Int))<|hk 7 Q3l (Q6u (Lib.trimLeftB a 48) (Lib.trimLeftB b 48))<|hk 9 Rj (Qg (C7 ((Lib.trimLeftB a 48).length:Int) ((Lib.trimLeftB b 48).length:Int)) (Lib.compareBytes (Lib.trimLeftB a 48) (Lib.trimLeftB b 48)))<|hk0) (vk 9 17 (b:=(Ah [C7 ((Lib.trimLeftB a 48).length:Int) ((Lib.trimLeftB b 48).length:Int),Lib.compareBytes (Lib.trimLeftB a 48) (Lib.trimLeftB b 48)])) (Imp.list (f:=AV.int .i64) rfl)<|v0) c0 ?_
 refine Ag ?_
 refine RK wR [(.int .i64 (C3 a b))] ?_
 exact Same.of_eq (by first|rfl|(simp only[Ak];simp_all))
theorem X6x (n : Nat) (a0 b0 : List UInt8) (h0 : a0.length + b0.length < n) (ha : a0.length ≤ 4194304) (hb : b0.length ≤ 4194304) :
  FnV Tryz.prog 178 [(.str a0),(.str b0)] (.int .i64 (Dq n a0 b0)):=by
 refine A8 [.tmp 4] Tryz.func178 rfl Tryz.ntmps178 rfl rfl (fun B F hF=>?_)
 refine Ab [] [0,1] ?_
 refine We 0 rfl (fun g y=>∃(k:Nat) (a:List UInt8) (b:List UInt8),a.length+b.length < k∧a.length≤4194304∧b.length≤4194304∧Dq n a0 b0=Dq k a b∧y=⟨[(0,(.str a)),(1,(.str b))],[],0⟩∧g=k) [0,1] 0 (by omega) (fun hJ0=>?_) ?_
 ·refine Ac ?_
  refine Wf ?_
  refine Sc (y:=⟨[(0,(.str a0)),(1,(.str b0))],[],0⟩) [0,1] 0 (by omega) (by kernel_rfl) (hJ0 _ _ ⟨n,a0,b0,(by omega),(by omega),(by omega),(by rfl),(by kernel_rfl),rfl⟩)
 ·rintro g y ⟨k,a,b,fl0_1,fl0_2,fl0_3,fl0_4,rfl,rfl⟩
  have hca:=F6 Aq a
  have hcb:=F6 Aq b
  refine Ac ?_
  refine Af [] [0,1,5,6] [] (hk 1 Q3k (W0 a)<|hk 3 Q3k (W0 b)<|hk0) v0 c0 ?_
  obtain⟨b1,hb1⟩:∃b,b=(!decide ((B4 a)=0)):=⟨_,rfl⟩
  refine Af (CS:=[(4,((!b1)=true→(!b1)=true)),(5,(b1=false→(!b1)=true))]) [17,18] [0,1,5,6,19] [] hk0 (vk 3 16 (a:=.bool (!decide ((B4 a)=0))) (b:=.bool b1) (Imp.of_eq (by rw[hb1]))<|v0) (by refine cc _ ?_<|cc _ ?_ c0<;>simp) ?_
  refine Bd (q:=b1||(!decide ((B4 b)=0))) (by kernel_rfl) (fun c1=>?_) (fun c1=>?_)
  ·subst hb1
   try simp only[Am] at c1
   refine Ac ?_
   refine Ab [] [0,1,5,6,22] ?_
   refine Da (p:=(B4 a)=(B4 b)) (by kernel_rfl) (fun c2=>?_) (fun c2=>?_)
   ·refine Af [] [4] [] (hk 2 Vd (Vx (B4 a) (B4 b))<|hk0) v0 c0 ?_
    refine Ag ?_
    refine RK wR [(.int .i64 (C7 (B4 a) (B4 b)))] ?_
    refine Same.of_eq ?_
    simp only[Ak]
    rw[fl0_4]
    obtain⟨k,rfl⟩:∃q,g=q+1:=⟨g-1,by omega⟩
    try simp only[List.take_length,List.drop_zero] at *
    unfold Dq
    rw[if_pos (by assumption),if_pos (by assumption)]
   ·have hpa:=Pe (s:=a) (by omega)
    have hpb:=Pe (s:=b) (by omega)
    refine Ai ?_
    refine Cr (CS:=[(1,(0≤(1:Int)∧(1:Int)≤(a.length:Int)∧(a.length:Int)≤(a.length:Int))),(3,(0≤(1:Int)∧(1:Int)≤(b.length:Int)∧(b.length:Int)≤(b.length:Int)))]) [] [0,1] [] hk0 v0 (by refine cc _ ?_<|cc _ ?_ c0<;>omega) ?_
    have hza:=fun h=>Ly (s:=a) h
    have hzb:=fun h=>Ly (s:=b) h
    refine M9 ⟨rfl,_,(by kernel_rfl:gcS _ _ _=some ⟨[(0,(.str ((a.take a.length).drop 1))),(1,(.str ((b.take b.length).drop 1)))],[],0⟩),_,?_,g-1,((a.take a.length).drop 1),((b.take b.length).drop 1),?_,?_,?_,?_,(by kernel_rfl),rfl⟩
    all_goals (obtain⟨k,rfl⟩:∃q,g=q+1:=⟨g-1,by omega⟩)
    all_goals try simp only[List.take_length,List.drop_zero,List.length_drop] at *
    all_goals have hdec:a.length=0→b.length=0→False:=fun e1 e2=>by first|omega|(rcases c4 with h|h<;>have:=Q4a h<;>omega)
    ·first|omega|(have h1:=hza (by omega);have h2:=hzb (by omega);have h3:¬(a.length=0∧b.length=0):=fun e=>hdec e.1 e.2;omega)
    ·first|omega|(have h1:=hza (by omega);have h2:=hzb (by omega);have h3:¬(a.length=0∧b.length=0):=fun e=>hdec e.1 e.2;omega)
    ·omega
    ·omega
    ·rw[fl0_4]
     conv=>lhs;unfold Dq
     first|(rw[if_pos (by assumption),if_neg (by omega)];rfl)|(rw[if_neg (by omega),if_neg (by omega),if_pos (by simp_all)];rfl)
  ·subst hb1
   try simp only[Am] at c1
   refine Ai ?_
   refine Af [] [0,1,7,8] [] (hk 1 (al:=[(.str a),(.fn 160 [] [])]) Hz ((Iy a (.fn 160 [] []) Aq (by omega) (fun c=>FunV.of (by exact Iv) (Jk c))).of_args (ImpL.cons Imp.refl (ImpL.cons (Imp.clo rfl) ImpL.nil)))<|hk 3 (al:=[(.str b),(.fn 160 [] [])]) Hz ((Iy b (.fn 160 [] []) Aq (by omega) (fun c=>FunV.of (by exact Iv) (Jk c))).of_args (ImpL.cons Imp.refl (ImpL.cons (Imp.clo rfl) ImpL.nil)))<|hk0) v0 c0 ?_
   refine Ac ?_
   refine Cr (CS:=[(2,(0≤(0:Int)∧(0:Int)≤(Ar Aq a:Int)∧(Ar Aq a:Int)≤(a.length:Int))),(5,(0≤(0:Int)∧(0:Int)≤(Ar Aq b:Int)∧(Ar Aq b:Int)≤(b.length:Int)))]) [] [0,1,7,8,9] [] (hk 6 Ve (T1 ((a.take (Ar Aq a)).drop 0) ((b.take (Ar Aq b)).drop 0))<|hk0) v0 (by refine cc _ ?_<|cc _ ?_ c0<;>omega) ?_
   refine Ab [] [0,1,7,8,9,42] ?_
   refine Da (p:=(C3 ((a.take (Ar Aq a)).drop 0) ((b.take (Ar Aq b)).drop 0))=0) (by kernel_rfl) (fun c3=>?_) (fun c3=>?_)
   ·refine Ab [] [4] ?_
    refine Ag ?_
    refine RK wR [(.int .i64 (C3 ((a.take (Ar Aq a)).drop 0) ((b.take (Ar Aq b)).drop 0)))] ?_
    refine Same.of_eq ?_
    simp only[Ak]
    rw[fl0_4]
    obtain⟨k,rfl⟩:∃q,g=q+1:=⟨g-1,by omega⟩
    try simp only[List.take_length,List.drop_zero] at *
    unfold Dq
    rw[if_neg (by omega),if_pos (by assumption)]
   ·refine Ai ?_
    refine Ac ?_
    refine Cr (CS:=[(2,(0≤(Ar Aq a:Int)∧(Ar Aq a:Int)≤(a.length:Int)∧(a.length:Int)≤(a.length:Int))),(5,(0≤(Ar Aq b:Int)∧(Ar Aq b:Int)≤(b.length:Int)∧(b.length:Int)≤(b.length:Int)))]) [] [0,1] [] hk0 v0 (by refine cc _ ?_<|cc _ ?_ c0<;>omega) ?_
    obtain⟨b2,hb2⟩:∃b,b=(!decide ((a.take a.length).drop (Ar Aq a)=[])):=⟨_,rfl⟩
    refine Af (CS:=[(4,((!b2)=true→(!b2)=true)),(5,(b2=false→(!b2)=true))]) [53,54] [0,1,55] [] hk0 (vk 3 52 (a:=.bool (!decide ((a.take a.length).drop (Ar Aq a)=[]))) (b:=.bool b2) (Imp.of_eq (by rw[hb2]))<|v0) (by refine cc _ ?_<|cc _ ?_ c0<;>simp) ?_
    refine Bd (q:=b2||(!decide ((b.take b.length).drop (Ar Aq b)=[]))) (by kernel_rfl) (fun c4=>?_) (fun c4=>?_)
    ·subst hb2
     try simp only[Am] at c4
     have hza:=fun h=>Ly (s:=a) h
     have hzb:=fun h=>Ly (s:=b) h
     refine M9 ⟨rfl,_,(by kernel_rfl:gcS _ _ _=some ⟨[(0,(.str ((a.take a.length).drop (Ar Aq a)))),(1,(.str ((b.take b.length).drop (Ar Aq b))))],[],0⟩),_,?_,g-1,((a.take a.length).drop (Ar Aq a)),((b.take b.length).drop (Ar Aq b)),?_,?_,?_,?_,(by kernel_rfl),rfl⟩
     all_goals (obtain⟨k,rfl⟩:∃q,g=q+1:=⟨g-1,by omega⟩)
     all_goals try simp only[List.take_length,List.drop_zero,List.length_drop] at *
     all_goals have hdec:a.length=0→b.length=0→False:=fun e1 e2=>by first|omega|(rcases c4 with h|h<;>have:=Q4a h<;>omega)
     ·first|omega|(have h1:=hza (by omega);have h2:=hzb (by omega);have h3:¬(a.length=0∧b.length=0):=fun e=>hdec e.1 e.2;omega)
     ·first|omega|(have h1:=hza (by omega);have h2:=hzb (by omega);have h3:¬(a.length=0∧b.length=0):=fun e=>hdec e.1 e.2;omega)
     ·omega
     ·omega
     ·rw[fl0_4]
      conv=>lhs;unfold Dq
      first|(rw[if_pos (by assumption),if_neg (by omega)];rfl)|(rw[if_neg (by omega),if_neg (by omega),if_pos (by simp_all)];rfl)
    ·subst hb2
     try simp only[Am] at c4
     refine Ai ?_
     refine Ab [] [4] ?_
     refine Ag ?_
     refine RK wR [(.int .i64 0)] ?_
     refine Same.of_eq ?_
     simp only[Ak]
     rw[fl0_4]
     obtain⟨k,rfl⟩:∃q,g=q+1:=⟨g-1,by omega⟩
     try simp only[List.take_length,List.drop_zero] at *
     unfold Dq
     rw[if_neg (by omega),if_neg (by omega),if_neg (by simp_all)]
end Sv
end
section
open Go Go.RowKit
namespace Sv
attribute [local irreducible] SW SO Bs
set_option maxHeartbeats 1000000
set_option maxRecDepth 100000
theorem Q3r:As Tryz.prog 179:=Az Tryz.func179 (by kernel_rfl) rfl
theorem Q3y:As Tryz.prog 141:=Az Tryz.func141 (by kernel_rfl) rfl
def orS (x y:List UInt8):List UInt8:=if x=[] then y else x
def A7 (k:Int) (a b:List UInt8):(List UInt8 × List UInt8 × List UInt8) × (List UInt8 × List UInt8 × List UInt8) × Int :=
 if k≠1∧k≠2 then (([],[],[]),([],[],[]),1) else if Cj a=0 then (Ct a,Ct b,Cj b) else (Ct a,([],[],[]),Cj a)
theorem Zy (x y : List UInt8) :
  FnV Tryz.prog 179 [(Di [x,y])] (.str (orS x y)):=by
 refine A8 [.tmp 2] Tryz.func179 rfl Tryz.ntmps179 rfl rfl (fun B F hF=>?_)
 refine Ab [] [0] ?_
 refine Ab [] [0,3] ?_
 refine Ac ?_
 refine Ab [] [3,6,7,8] ?_
 refine Ay ?_
 refine Sb 3 ?_
 refine F8 ?_
 refine Ab [] [3,6,7,8,9] ?_
 refine Ac ?_
 refine G8 (by kernel_rfl) ?_
 refine Ai ?_
 refine Ac ?_
 refine Ay ?_
 refine Af [] [3,5,6,7,8] [] hk0 v0 (cc 0 (p:=(0≤(0:Int)∧0 < 2)) (by omega)<|c0) ?_
 refine Ab [] [3,5,6,7,8,14] ?_
 refine Da (p:=x=[]) (by kernel_rfl) (fun c1=>?_) (fun c1=>?_)
 ·refine Ab [] [2] ?_
  refine Ag ?_
  refine RK wR [(.str x)] ?_
  exact Same.of_eq (by simp only[Ak];unfold orS;rw[if_neg (by assumption)])
 ·refine Ai ?_
  refine An ?_
  refine Au 0 [] [3,6,7,8] [] hk0 v0 (cc 0 (p:=(-9223372036854775808≤(1:Int)∧(1:Int)≤9223372036854775807)) (by omega)<|c0) ?_
  refine F8 ?_
  refine Ab [] [3,6,7,8,9] ?_
  refine Ac ?_
  refine G8 (by kernel_rfl) ?_
  refine Ai ?_
  refine Ac ?_
  refine Ay ?_
  refine Af [] [3,5,6,7,8] [] hk0 v0 (cc 0 (p:=(0≤(1:Int)∧1 < 2)) (by omega)<|c0) ?_
  refine Ab [] [3,5,6,7,8,14] ?_
  refine Da (p:=y=[]) (by kernel_rfl) (fun c2=>?_) (fun c2=>?_)
  ·refine Ab [] [2] ?_
   refine Ag ?_
   refine RK wR [(.str y)] ?_
   exact Same.of_eq (by simp only[Ak];unfold orS;rw[if_pos (by simp_all)]<;>rfl)
  ·refine Ai ?_
   refine An ?_
   refine Au 0 [] [3,6,7,8] [] hk0 v0 (cc 0 (p:=(-9223372036854775808≤(2:Int)∧(2:Int)≤9223372036854775807)) (by omega)<|c0) ?_
   refine F8 ?_
   refine Ab [] [3,6,7,8,9] ?_
   refine Ac ?_
   refine Fc (by kernel_rfl) ?_
   refine Bp ?_
   refine Ab [] [2] ?_
   refine Ag ?_
   refine RK wR [(.str [])] ?_
   exact Same.of_eq (by simp only[Ak];unfold orS;rw[if_pos (by simp_all)]<;>simp_all)
theorem Q42 (kind : Int) (a b : List UInt8) (ha : a.length ≤ 4194304) (hb : b.length ≤ 4194304) :
  FnV Tryz.prog 141 [(.int .i64 kind),(.str a),(.str b)] (.tup [(.agg [.str (A7 kind a b).1.1,.str (A7 kind a b).1.2.1,.str (A7 kind a b).1.2.2]),(.agg [.str (A7 kind a b).2.1.1,.str (A7 kind a b).2.1.2.1,.str (A7 kind a b).2.1.2.2]),.int .i64 (A7 kind a b).2.2]):=by
 refine A8 [.cell 6 150,.cell 7 150,.tmp 8] Tryz.func141 rfl Tryz.ntmps141 rfl rfl (fun B F hF=>?_)
 refine Ab [] [0,1,2,6,7] ?_
 refine Ac ?_
 obtain⟨b1,hb1⟩:∃b,b=(!decide (kind=1)):=⟨_,rfl⟩
 refine Af (CS:=[(4,(b1=true→b1=true)),(5,(b1=true→b1=true))]) [12,13] [1,2,6,7,14] [] hk0 (vk 3 11 (a:=.bool (!decide (kind=1))) (b:=.bool b1) (Imp.of_eq (by rw[hb1]))<|v0) (by refine cc _ ?_<|cc _ ?_ c0<;>simp) ?_
 refine Bd (q:=b1&&(!decide (kind=2))) (by kernel_rfl) (fun c1=>?_) (fun c1=>?_)
 ·subst hb1
  try simp only[Am] at c1
  refine Cr [] [6,7,8] [] hk0 v0 c0 ?_
  refine Ag ?_
  refine RK wR [(.agg [(.str []),(.str []),(.str [])]),(.agg [(.str []),(.str []),(.str [])]),(.int .i64 1)] ?_
  exact Same.of_eq (by simp only[Ak];unfold A7;first|(rw[if_pos (by omega)];done)|(rw[if_neg (by omega),if_pos (by omega)];done)|(rw[if_neg (by omega),if_neg (by omega)];done))
 ·subst hb1
  try simp only[Am] at c1
  refine Ai ?_
  refine Ac ?_
  refine Af [] [2,6,7,8] [] (hk 1 Ou (Q7 a (by omega))<|hk0) v0 c0 ?_
  refine Ab [] [2,6,7,8,23] ?_
  refine A5 (p:=(Cj a)=0) (by kernel_rfl) (fun c2=>?_) (fun c2=>?_)
  ·refine An ?_
   refine Au 0 [] [6,7,8] [] (hk 1 Ou (Q7 b (by omega))<|hk0) v0 c0 ?_
   refine Cr [] [6,7,8] [] hk0 v0 c0 ?_
   refine Ag ?_
   refine RK wR [(.agg [(.str ((Ct a).1)),(.str ((Ct a).2.1)),(.str ((Ct a).2.2))]),(.agg [(.str ((Ct b).1)),(.str ((Ct b).2.1)),(.str ((Ct b).2.2))]),(.int .i64 (Cj b))] ?_
   exact Same.of_eq (by simp only[Ak];unfold A7;first|(rw[if_pos (by omega)];done)|(rw[if_neg (by omega),if_pos (by omega)];done)|(rw[if_neg (by omega),if_neg (by omega)];done))
  ·refine Ai ?_
   refine Cr [] [6,7,8] [] hk0 v0 c0 ?_
   refine Ag ?_
   refine RK wR [(.agg [(.str ((Ct a).1)),(.str ((Ct a).2.1)),(.str ((Ct a).2.2))]),(.agg [(.str []),(.str []),(.str [])]),(.int .i64 (Cj a))] ?_
   exact Same.of_eq (by simp only[Ak];unfold A7;first|(rw[if_pos (by omega)];done)|(rw[if_neg (by omega),if_pos (by omega)];done)|(rw[if_neg (by omega),if_neg (by omega)];done))
end Sv
end
section
open Go Go.RowKit
namespace Sv
attribute [local irreducible] SW SO Bs
set_option maxHeartbeats 400000
set_option maxRecDepth 100000
theorem Q3q:As Tryz.prog 180:=Az Tryz.func180 (by kernel_rfl) rfl
theorem Q3j:As Tryz.prog 216:=Az Tryz.func216 (by kernel_rfl) rfl
theorem X45:As Tryz.prog 217:=Az Tryz.func217 (by kernel_rfl) rfl
theorem X44:As Tryz.prog 218:=Az Tryz.func218 (by kernel_rfl) rfl
def Fp (c:UInt8):Bool:=Aq c||(B7 c||(decide (c.toNat=126)||decide (c.toNat=94)))
theorem X2c (c : UInt8) :
  FnV Tryz.prog 217 [(.int .u8 ((c.toNat:Int)))] (.bool (Fp c)):=by
 refine A8 [.tmp 2] Tryz.func217 rfl Tryz.ntmps217 rfl rfl (fun B F hF=>?_)
 refine Ab [] [0] ?_
 obtain⟨b1,hb1⟩:∃b,b=((Aq c)||(B7 c)):=⟨_,rfl⟩
 obtain⟨b2,hb2⟩:∃b,b=(b1||(decide ((c.toNat:Int)=126))):=⟨_,rfl⟩
 refine Af (CS:=[(4,(!(Aq c))=true→(!(Aq c))=true),(5,((Aq c)=false→(!(Aq c))=true)),(8,((!b1)=true→(!b1)=true)),(9,(b1=false→(!b1)=true)),(12,((!b2)=true→(!b2)=true)),(13,(b2=false→(!b2)=true))]) [6,10,11,14,15] [2] [] (hk 1 Iv (Jk c)<|hkg 4 (!(Aq c)) Mw (fun cg=>Ob c)<|hk0) (vk 7 9 (a:=.bool ((Aq c)||(B7 c))) (b:=.bool b1) (Imp.of_eq (by rw[hb1]))<|vk 11 13 (a:=.bool (b1||(decide ((c.toNat:Int)=126)))) (b:=.bool b2) (Imp.of_eq (by rw[hb2]))<|v0) (by refine cc _ ?_<|cc _ ?_<|cc _ ?_<|cc _ ?_<|cc _ ?_<|cc _ ?_ c0<;>simp) ?_
 refine Ag ?_
 refine RK wR [(.bool (b2||(decide ((c.toNat:Int)=94))))] ?_
 subst hb2 hb1
 refine Same.of_eq ?_
 simp only[Ak]
 congr 1
 unfold Fp
 rw[Bool.eq_iff_iff]
 have e1:((c.toNat:Int)=126)↔c.toNat=126:=by omega
 have e2:((c.toNat:Int)=94)↔c.toNat=94:=by omega
 simp only[Bool.and_eq_true,Bool.or_eq_true,decide_eq_true_eq,e1,e2,or_assoc]
theorem X04 (c : UInt8) (a : AV) (q : Bool) (ha : FunV Tryz.prog a [.int .u8 (c.toNat : Int)] (.bool q)) :
  FnV Tryz.prog 218 [(.int .u8 ((c.toNat:Int))),(.fp (.agg [(.clo a)]))] (.bool (!q)):=by
 refine A8 [.tmp 3] Tryz.func218 rfl Tryz.ntmps218 rfl rfl (fun B F hF=>?_)
 refine Ab [] [0,1] ?_
 refine Ac ?_
 refine An ?_
 refine B2 2 0 [] [4,5] [] hk0 v0 c0 ?_
 refine F9 (s':=[(4,(.clo a)),(5,(.int .u8 ((c.toNat:Int)))),(6,(.bool q))]) (a:=(.clo a)) (al:=[(.int .u8 ((c.toNat:Int)))]) (r:=(.bool q)) (by kernel_rfl) (by kernel_rfl) (by kernel_rfl) (by kernel_rfl) (by kernel_rfl) ha.clo (by kernel_rfl) ?_
 refine Au 3 [] [3] [] hk0 v0 c0 ?_
 refine Ag ?_
 refine RK wR [(.bool (!q))] ?_
 exact Same.of_eq (by first|rfl|(simp only[Ak];simp_all))
theorem X7p (a b : List UInt8) (ha : a.length ≤ 4194304) (hb : b.length ≤ 4194304) :
  FnV Tryz.prog 216 [(.int .u8 126),(.fp (.agg [(.str a)])),(.fp (.agg [(.str b)]))] (.tup [.bool (Bb a 126),.bool (Bb b 126)]):=by
 refine A8 [.tmp 4,.tmp 5] Tryz.func216 rfl Tryz.ntmps216 rfl rfl (fun B F hF=>?_)
 refine Ab [] [0,1,2] ?_
 refine Cr [] [4,5] [] (hk 3 Mx (Pd a 126 (by omega))<|hk 7 Mx (Pd b 126 (by omega))<|hk0) v0 c0 ?_
 refine Ag ?_
 refine RK wR [(.bool (Bb a 126)),(.bool (Bb b 126))] ?_
 exact Same.of_eq (by first|rfl|(simp only[Ak];simp_all))
theorem X7o (a b : List UInt8) (ha : a.length ≤ 4194304) (hb : b.length ≤ 4194304) :
  FnV Tryz.prog 216 [(.int .u8 94),(.fp (.agg [(.str a)])),(.fp (.agg [(.str b)]))] (.tup [.bool (Bb a 94),.bool (Bb b 94)]):=by
 refine A8 [.tmp 4,.tmp 5] Tryz.func216 rfl Tryz.ntmps216 rfl rfl (fun B F hF=>?_)
 refine Ab [] [0,1,2] ?_
 refine Cr [] [4,5] [] (hk 3 Mx (Pd a 94 (by omega))<|hk 7 Mx (Pd b 94 (by omega))<|hk0) v0 c0 ?_
 refine Ag ?_
 refine RK wR [(.bool (Bb a 94)),(.bool (Bb b 94))] ?_
 exact Same.of_eq (by first|rfl|(simp only[Ak];simp_all))
end Sv
end
section
open Go Go.RowKit
namespace Sv
attribute [local irreducible] SW SO Bs
set_option maxHeartbeats 2000000
set_option maxRecDepth 100000
def C9 (c:UInt8):Bool:=!Fp c
theorem Z9 (c:UInt8):FunV Tryz.prog (.fn 218 [] [.fp (.agg [.fn 217 [] []])]) [.int .u8 (c.toNat:Int)] (.bool (C9 c)) :=
 FunV.of (by exact X44) ((X04 c (.fn 217 [] []) (Fp c) (FunV.of (by exact X45) (X2c c))).of_args (ImpL.cons Imp.refl (ImpL.cons (Imp.fp (Imp.aggs (ImpL.cons (Imp.clo rfl) ImpL.nil))) ImpL.nil)))
theorem Lc {s:List UInt8} {k:UInt8} (h:Bb s k=true):1≤s.length:=by
 cases s with
 |nil=>simp[Bb] at h
 |cons a r=>simp
theorem Q4k (p:UInt8→Bool):∀s:List UInt8,s.drop (Ar p s)=[]∨p (Aj (s.drop (Ar p s)) 0)=false
 |[] => .inl rfl
 |a::r=>by
  unfold Ar
  rw[List.takeWhile_cons]
  cases h:p a with
  |true=>exact Q4k p r
  |false=>right;simpa [Aj] using h
theorem Qj {s r:List UInt8} (h:r=s.drop (Ar C9 s)):r=[]∨Fp (Aj r 0)=true:=by
 rcases Q4k C9 s with q|q
 ·exact .inl (h.trans q)
 ·right
  rw[h]
  have e:(!Fp (Aj (s.drop (Ar C9 s)) 0))=false:=q
  simpa using e
theorem Ov {p:UInt8→Bool} {s:List UInt8} (h:1≤s.length) (k:p (Aj s 0)=true):1≤Ar p s:=by
 cases s with
 |nil=>simp at h
 |cons a r=>unfold Ar;rw[List.takeWhile_cons,show p a=true from by simpa [Aj] using k];simp
theorem Q0y {s:List UInt8} (h:Fp (Aj s 0)=true) (hs:1≤s.length) (h1:Bb s 126=false) (h2:Bb s 94=false) (h3:Aq (Aj s 0)=false):B7 (Aj s 0)=true:=by
 cases s with
 |nil=>simp at hs
 |cons a r =>
  have e:Aj (a::r) 0=a:=by simp[Aj]
  rw[e] at h h3 ⊢
  unfold Fp at h
  rw[h3] at h
  have a1:¬a.toNat=126:=fun q=>by have:a=126:=UInt8.toNat_inj.1 q;subst this;simp[Bb] at h1
  have a2:¬a.toNat=94:=fun q=>by have:a=94:=UInt8.toNat_inj.1 q;subst this;simp[Bb] at h2
  simpa [a1,a2] using h
def Dn (r:List UInt8→List UInt8→Int) (a b:List UInt8):Int :=
 if Bb a 126=true∨Bb b 126=true then
  if Bb a 126=true∧Bb b 126=true then r (a.drop 1) (b.drop 1) else E3 (Bb a 126) (Bb b 126) (-1)
 else if Bb a 94=true∨Bb b 94=true then
  if Bb a 94=true∧Bb b 94=true then r (a.drop 1) (b.drop 1)
  else if a=[]∨b=[] then E3 (Bb a 94) (Bb b 94) 1 else E3 (Bb a 94) (Bb b 94) (-1)
 else if a=[]∨b=[] then C7 (a.length:Int) (b.length:Int)
 else if Aq (Aj a 0)=true then
  if Ar Aq b=0 then 1
  else if ¬C3 (a.take (Ar Aq a)) (b.take (Ar Aq b))=0 then C3 (a.take (Ar Aq a)) (b.take (Ar Aq b))
  else r (a.drop (Ar Aq a)) (b.drop (Ar Aq b))
 else if Ar B7 b=0 then -1
 else if ¬Lib.compareBytes (a.take (Ar B7 a)) (b.take (Ar B7 b))=0 then Lib.compareBytes (a.take (Ar B7 a)) (b.take (Ar B7 b))
 else r (a.drop (Ar B7 a)) (b.drop (Ar B7 b))
def E2:Nat→List UInt8→List UInt8→Int
 |0,_,_=>0
 |n+1,a,b=>Dn (E2 n) (a.drop (Ar C9 a)) (b.drop (Ar C9 b))
theorem Q8u (n : Nat) (a0 b0 : List UInt8) (h0 : a0.length + b0.length < n) (ha : a0.length ≤ 4194304) (hb : b0.length ≤ 4194304) :
  FnV Tryz.prog 180 [(.str a0),(.str b0)] (.int .i64 (E2 n a0 b0)):=by
 refine A8 [.tmp 4] Tryz.func180 rfl Tryz.ntmps180 rfl rfl (fun B F hF=>?_)
 refine Ab [] [2,3] ?_
 refine We 0 rfl (fun g y=>∃(k:Nat) (a:List UInt8) (b:List UInt8),a.length+b.length < k∧a.length≤4194304∧b.length≤4194304∧E2 n a0 b0=E2 k a b∧y=⟨[(2,(.ptr 0 0)),(3,(.ptr 1 0)),(5,(.fn 216 [] [(.ptr 0 0),(.ptr 1 0)])),(7,(.fn 218 [] [(.fp (.agg [(.fn 217 [] [])]))]))],[(0,(.row [(.str a)] 9)),(1,(.row [(.str b)] 9))],3⟩∧g=k) [2,3,5,7] 3 (by omega) (fun hJ0=>?_) ?_
 ·refine Ac ?_
  refine An ?_
  refine Ei [] [2,3,5] ?_
  refine Ac ?_
  refine An ?_
  refine Ei [] [2,3,5,6] ?_
  refine Ac ?_
  refine An ?_
  refine Au 0 [] [2,3,5,7] [(0,6)] hk0 v0 c0 ?_
  refine Ac ?_
  refine Wf ?_
  refine Sc (y:=⟨[(2,(.ptr 0 0)),(3,(.ptr 1 0)),(5,(.fn 216 [] [(.ptr 0 0),(.ptr 1 0)])),(7,(.fn 218 [] [(.fp (.agg [(.fn 217 [] [])]))]))],[(0,(.row [(.str a0)] 9)),(1,(.row [(.str b0)] 9))],3⟩) [2,3,5,7] 3 (by omega) (by kernel_rfl) (hJ0 _ _ ⟨n,a0,b0,(by omega),(by omega),(by omega),(by rfl),(by kernel_rfl),rfl⟩)
 ·rintro g y ⟨k,a,b,fl0_1,fl0_2,fl0_3,fl0_4,rfl,rfl⟩
  obtain⟨k,rfl⟩:∃q,g=q+1:=⟨g-1,by omega⟩
  have hoa:=F6 C9 a
  have hob:=F6 C9 b
  refine Dm (fun y=>∃(a1:List UInt8) (b1:List UInt8),a1=a.drop (Ar C9 a)∧b1=b.drop (Ar C9 b)∧y=⟨[(2,(.ptr 0 0)),(3,(.ptr 1 0)),(5,(.fn 216 [] [(.ptr 0 0),(.ptr 1 0)])),(7,(.fn 218 [] [(.fp (.agg [(.fn 217 [] [])]))]))],[(0,(.row [(.str a1)] 9)),(1,(.row [(.str b1)] 9))],3⟩) [2,3,5,7] 3 (by omega) ?_ ?_
  ·refine G9 (CS:=[(4,(0≤(Ar C9 a:Int)∧(Ar C9 a:Int)≤(a.length:Int)∧(a.length:Int)≤(a.length:Int))),(9,(0≤(Ar C9 b:Int)∧(Ar C9 b:Int)≤(b.length:Int)∧(b.length:Int)≤(b.length:Int)))]) [] [2,3,5,7] [] (hk 3 (al:=[(.str a),(.fn 218 [] [(.fp (.agg [(.fn 217 [] [])]))])]) Hz ((Iy a (.fn 218 [] [.fp (.agg [.fn 217 [] []])]) C9 (by omega) (fun c=>Z9 c)).of_args (ImpL.cons Imp.refl (ImpL.cons (Imp.clo rfl) ImpL.nil)))<|hk 8 (al:=[(.str b),(.fn 218 [] [(.fp (.agg [(.fn 217 [] [])]))])]) Hz ((Iy b (.fn 218 [] [.fp (.agg [.fn 217 [] []])]) C9 (by omega) (fun c=>Z9 c)).of_args (ImpL.cons Imp.refl (ImpL.cons (Imp.clo rfl) ImpL.nil)))<|hk0) v0 (by refine cc _ ?_<|cc _ ?_ c0<;>omega) ?_
   refine⟨by kernel_rfl,((a.take a.length).drop (Ar C9 a)),((b.take b.length).drop (Ar C9 b)),?_,?_,(by kernel_rfl)⟩
   all_goals rw[List.take_length]
  ·rintro y1 ⟨a1,b1,ja,jb,rfl⟩
   have hla:a1.length≤a.length:=by rw[ja,List.length_drop];omega
   have hlb:b1.length≤b.length:=by rw[jb,List.length_drop];omega
   have hma:=Qj ja
   have hmb:=Qj jb
   have hxa:=fun k=>Lc (s:=a1) (k:=k)
   have hxb:=fun k=>Lc (s:=b1) (k:=k)
   have hda:=F6 Aq a1
   have hdb:=F6 Aq b1
   have hea:=F6 B7 a1
   have heb:=F6 B7 b1
   have e0:E2 (k+1) a b=Dn (E2 k) a1 b1:=by rw[ja,jb];rfl
   refine Ac ?_
   refine Ac ?_
   refine An ?_
   refine B2 1 0 [] [2,3,5,7,31] [] hk0 v0 c0 ?_
   refine Q6f (s':=[(2,(.ptr 0 0)),(3,(.ptr 1 0)),(5,(.fn 216 [] [(.ptr 0 0),(.ptr 1 0)])),(7,(.fn 218 [] [(.fp (.agg [(.fn 217 [] [])]))])),(31,(.fn 216 [] [(.ptr 0 0),(.ptr 1 0)])),(32,(.tup [(.bool (Bb a1 126)),(.bool (Bb b1 126))]))]) (al:=[(.int .u8 126)]) (f:=216) (cap:=[(.ptr 0 0),(.ptr 1 0)]) (al':=[(.int .u8 126),(.fp (.agg [(.str a1)])),(.fp (.agg [(.str b1)]))]) (h':=[]) (r:=(.tup [(.bool (Bb a1 126)),(.bool (Bb b1 126))])) (by kernel_rfl) (by kernel_rfl) (by exact Q3j) (by kernel_rfl) (by kernel_rfl) (X7p a1 b1 (by omega) (by omega)) rfl (by kernel_rfl) ?_
   refine Au 2 [] [2,3,5,7,8,9] [] hk0 v0 c0 ?_
   refine Af [37] [2,3,5,7,8,9,38] [] hk0 v0 (cc 3 (p:=((Bb a1 126)=false→(!(Bb a1 126))=true)) (by simp)<|c0) ?_
   refine Bd (q:=(Bb a1 126)||(Bb b1 126)) (by kernel_rfl) (fun c1=>?_) (fun c1=>?_)
   ·try simp only[Am] at c1
    refine Ac ?_
    refine Af [41] [2,3,5,7,8,9,42] [] hk0 v0 (cc 3 (p:=((Bb a1 126)=true→(Bb a1 126)=true)) (by simp)<|c0) ?_
    refine Bd (q:=(Bb a1 126)&&(Bb b1 126)) (by kernel_rfl) (fun c2=>?_) (fun c2=>?_)
    ·try simp only[Am] at c2
     have h1:=hxa _ c2.1
     have h2:=hxb _ c2.2
     refine Cr (CS:=[(1,(0≤(1:Int)∧(1:Int)≤(a1.length:Int)∧(a1.length:Int)≤(a1.length:Int))),(3,(0≤(1:Int)∧(1:Int)≤(b1.length:Int)∧(b1.length:Int)≤(b1.length:Int)))]) [] [2,3,5,7] [] hk0 v0 (by refine cc _ ?_<|cc _ ?_ c0<;>omega) ?_
     refine M9 ⟨rfl,_,(by kernel_rfl:gcS _ _ _=some ⟨[(2,(.ptr 0 0)),(3,(.ptr 1 0)),(5,(.fn 216 [] [(.ptr 0 0),(.ptr 1 0)])),(7,(.fn 218 [] [(.fp (.agg [(.fn 217 [] [])]))]))],[(0,(.row [(.str ((a1.take a1.length).drop 1))] 9)),(1,(.row [(.str ((b1.take b1.length).drop 1))] 9))],3⟩),_,?_,k,((a1.take a1.length).drop 1),((b1.take b1.length).drop 1),?_,?_,?_,?_,(by kernel_rfl),rfl⟩
     all_goals (try simp only[List.take_length,List.drop_zero,List.length_drop] at *)
     ·omega
     ·omega
     ·omega
     ·omega
     ·rw[fl0_4,e0]
      unfold Dn
      rw[if_pos c1,if_pos c2]
    ·try simp only[Am] at c2
     refine Ai ?_
     refine Af [] [4] [] (hk 2 Ri (Qf (Bb a1 126) (Bb b1 126) (-1) (by omega))<|hk0) v0 c0 ?_
     refine Ag ?_
     refine RK wR [(.int .i64 (E3 (Bb a1 126) (Bb b1 126) (-1)))] ?_
     refine Same.of_eq ?_
     simp only[Ak]
     try simp only[List.take_length,List.drop_zero] at *
     rw[fl0_4,e0]
     congr 1
     symm
     unfold Dn
     rw[if_pos c1,if_neg (by rcases c2 with h|h<;>simp[h])]
   ·try simp only[Am] at c1
    refine Ai ?_
    refine Ac ?_
    refine Ac ?_
    refine An ?_
    refine B2 1 0 [] [2,3,5,7,51] [] hk0 v0 c0 ?_
    refine Q6f (s':=[(2,(.ptr 0 0)),(3,(.ptr 1 0)),(5,(.fn 216 [] [(.ptr 0 0),(.ptr 1 0)])),(7,(.fn 218 [] [(.fp (.agg [(.fn 217 [] [])]))])),(51,(.fn 216 [] [(.ptr 0 0),(.ptr 1 0)])),(52,(.tup [(.bool (Bb a1 94)),(.bool (Bb b1 94))]))]) (al:=[(.int .u8 94)]) (f:=216) (cap:=[(.ptr 0 0),(.ptr 1 0)]) (al':=[(.int .u8 94),(.fp (.agg [(.str a1)])),(.fp (.agg [(.str b1)]))]) (h':=[]) (r:=(.tup [(.bool (Bb a1 94)),(.bool (Bb b1 94))])) (by kernel_rfl) (by kernel_rfl) (by exact Q3j) (by kernel_rfl) (by kernel_rfl) (X7o a1 b1 (by omega) (by omega)) rfl (by kernel_rfl) ?_
    refine Au 2 [] [2,3,5,7,10,11] [] hk0 v0 c0 ?_
    refine Af [57] [2,3,5,7,10,11,58] [] hk0 v0 (cc 3 (p:=((Bb a1 94)=false→(!(Bb a1 94))=true)) (by simp)<|c0) ?_
    refine Bd (q:=(Bb a1 94)||(Bb b1 94)) (by kernel_rfl) (fun c3=>?_) (fun c3=>?_)
    ·try simp only[Am] at c3
     refine Ac ?_
     refine Ay ?_
     refine Af [62] [2,3,5,7,10,11,59] [] hk0 v0 (cc 3 (p:=((Bb a1 94)=true→(Bb a1 94)=true)) (by simp)<|c0) ?_
     refine Bd (q:=(Bb a1 94)&&(Bb b1 94)) (by kernel_rfl) (fun c4=>?_) (fun c4=>?_)
     ·try simp only[Am] at c4
      have h1:=hxa _ c4.1
      have h2:=hxb _ c4.2
      refine Cr (CS:=[(1,(0≤(1:Int)∧(1:Int)≤(a1.length:Int)∧(a1.length:Int)≤(a1.length:Int))),(3,(0≤(1:Int)∧(1:Int)≤(b1.length:Int)∧(b1.length:Int)≤(b1.length:Int)))]) [] [2,3,5,7] [] hk0 v0 (by refine cc _ ?_<|cc _ ?_ c0<;>omega) ?_
      refine M9 ⟨rfl,_,(by kernel_rfl:gcS _ _ _=some ⟨[(2,(.ptr 0 0)),(3,(.ptr 1 0)),(5,(.fn 216 [] [(.ptr 0 0),(.ptr 1 0)])),(7,(.fn 218 [] [(.fp (.agg [(.fn 217 [] [])]))]))],[(0,(.row [(.str ((a1.take a1.length).drop 1))] 9)),(1,(.row [(.str ((b1.take b1.length).drop 1))] 9))],3⟩),_,?_,k,((a1.take a1.length).drop 1),((b1.take b1.length).drop 1),?_,?_,?_,?_,(by kernel_rfl),rfl⟩
      all_goals (try simp only[List.take_length,List.drop_zero,List.length_drop] at *)
      ·omega
      ·omega
      ·omega
      ·omega
      ·rw[fl0_4,e0]
       unfold Dn
       rw[if_neg (by simp[c1.1,c1.2]),if_pos c3,if_pos c4]
     ·try simp only[Am] at c4
      refine Af (CS:=[(4,((!(decide (a1=[])))=true→(!(decide (a1=[])))=true)),(5,((decide (a1=[]))=false→(!(decide (a1=[])))=true))]) [72,73] [10,11,68] [] hk0 v0 (by refine cc _ ?_<|cc _ ?_ c0<;>simp) ?_
      refine Bd (q:=(decide (a1=[]))||(decide (b1=[]))) (by kernel_rfl) (fun c5=>?_) (fun c5=>?_)
      ·try simp only[Am] at c5
       refine Af [] [4] [] (hk 2 Ri (Qf (Bb a1 94) (Bb b1 94) 1 (by omega))<|hk0) v0 c0 ?_
       refine Ag ?_
       refine RK wR [(.int .i64 (E3 (Bb a1 94) (Bb b1 94) 1))] ?_
       refine Same.of_eq ?_
       simp only[Ak]
       try simp only[List.take_length,List.drop_zero] at *
       rw[fl0_4,e0]
       congr 1
       symm
       unfold Dn
       rw[if_neg (by simp[c1.1,c1.2]),if_pos c3,if_neg (by rcases c4 with h|h<;>simp[h]),if_pos c5]
      ·try simp only[Am] at c5
       refine Ai ?_
       refine Af [] [4] [] (hk 2 Ri (Qf (Bb a1 94) (Bb b1 94) (-1) (by omega))<|hk0) v0 c0 ?_
       refine Ag ?_
       refine RK wR [(.int .i64 (E3 (Bb a1 94) (Bb b1 94) (-1)))] ?_
       refine Same.of_eq ?_
       simp only[Ak]
       try simp only[List.take_length,List.drop_zero] at *
       rw[fl0_4,e0]
       congr 1
       symm
       unfold Dn
       rw[if_neg (by simp[c1.1,c1.2]),if_pos c3,if_neg (by rcases c4 with h|h<;>simp[h]),if_neg (by simp[c5.1,c5.2])]
    ·try simp only[Am] at c3
     refine Ai ?_
     refine Ac ?_
     refine Af (CS:=[(4,((!(decide (a1=[])))=true→(!(decide (a1=[])))=true)),(5,((decide (a1=[]))=false→(!(decide (a1=[])))=true))]) [84,85] [2,3,5,7,86] [] hk0 v0 (by refine cc _ ?_<|cc _ ?_ c0<;>simp) ?_
     refine Bd (q:=(decide (a1=[]))||(decide (b1=[]))) (by kernel_rfl) (fun c6=>?_) (fun c6=>?_)
     ·try simp only[Am] at c6
      refine Af [] [4] [] (hk 4 Vd (Vx (a1.length:Int) (b1.length:Int))<|hk0) v0 c0 ?_
      refine Ag ?_
      refine RK wR [(.int .i64 (C7 (a1.length:Int) (b1.length:Int)))] ?_
      refine Same.of_eq ?_
      simp only[Ak]
      try simp only[List.take_length,List.drop_zero] at *
      rw[fl0_4,e0]
      congr 1
      symm
      unfold Dn
      rw[if_neg (by simp[c1.1,c1.2]),if_neg (by simp[c3.1,c3.2]),if_pos c6]
     ·try simp only[Am] at c6
      have hpa:=List.length_pos_iff.2 c6.1
      have hpb:=List.length_pos_iff.2 c6.2
      refine Ai ?_
      refine Ac ?_
      refine Af [] [2,3,5,7,94] [] (hk 2 Iv (Jk (Aj a1 0))<|hk0) v0 (cc 1 (p:=(0≤(0:Int)∧0 < a1.length)) (by omega)<|c0) ?_
      refine Bd (q:=Aq (Aj a1 0)) (by kernel_rfl) (fun c7=>?_) (fun c7=>?_)
      ·try simp only[Am] at c7
       refine Cr [] [2,3,5,7,12,13] [] (hk 1 (al:=[(.str a1),(.fn 160 [] [])]) Hz ((Iy a1 (.fn 160 [] []) Aq (by omega) (fun c=>FunV.of (by exact Iv) (Jk c))).of_args (ImpL.cons Imp.refl (ImpL.cons (Imp.clo rfl) ImpL.nil)))<|hk 3 (al:=[(.str b1),(.fn 160 [] [])]) Hz ((Iy b1 (.fn 160 [] []) Aq (by omega) (fun c=>FunV.of (by exact Iv) (Jk c))).of_args (ImpL.cons Imp.refl (ImpL.cons (Imp.clo rfl) ImpL.nil)))<|hk0) v0 c0 ?_
       refine Ac ?_
       refine Ab [] [2,3,5,7,12,13,100] ?_
       refine A5 (p:=(Ar Aq b1:Int)=0) (by kernel_rfl) (fun c8=>?_) (fun c8=>?_)
       ·refine Ab [] [4] ?_
        refine Ag ?_
        refine RK wR [(.int .i64 1)] ?_
        refine Same.of_eq ?_
        simp only[Ak]
        try simp only[List.take_length,List.drop_zero] at *
        rw[fl0_4,e0]
        congr 1
        symm
        unfold Dn
        rw[if_neg (by simp[c1.1,c1.2]),if_neg (by simp[c3.1,c3.2]),if_neg (by simp[c6.1,c6.2]),if_pos c7,if_pos (by omega)]
       ·refine Ai ?_
        refine Ac ?_
        refine Cr (CS:=[(2,(0≤(0:Int)∧(0:Int)≤(Ar Aq a1:Int)∧(Ar Aq a1:Int)≤(a1.length:Int))),(5,(0≤(0:Int)∧(0:Int)≤(Ar Aq b1:Int)∧(Ar Aq b1:Int)≤(b1.length:Int)))]) [] [2,3,5,7,12,13,14] [] (hk 6 Ve (T1 ((a1.take (Ar Aq a1)).drop 0) ((b1.take (Ar Aq b1)).drop 0))<|hk0) v0 (by refine cc _ ?_<|cc _ ?_ c0<;>omega) ?_
        refine Ab [] [2,3,5,7,12,13,14,109] ?_
        refine Da (p:=(C3 ((a1.take (Ar Aq a1)).drop 0) ((b1.take (Ar Aq b1)).drop 0))=0) (by kernel_rfl) (fun c9=>?_) (fun c9=>?_)
        ·refine Ab [] [4] ?_
         refine Ag ?_
         refine RK wR [(.int .i64 (C3 ((a1.take (Ar Aq a1)).drop 0) ((b1.take (Ar Aq b1)).drop 0)))] ?_
         refine Same.of_eq ?_
         simp only[Ak]
         try simp only[List.take_length,List.drop_zero] at *
         rw[fl0_4,e0]
         congr 1
         symm
         unfold Dn
         rw[if_neg (by simp[c1.1,c1.2]),if_neg (by simp[c3.1,c3.2]),if_neg (by simp[c6.1,c6.2]),if_pos c7,if_neg (by omega),if_pos c9]
        ·refine Ai ?_
         refine Cr (CS:=[(2,(0≤(Ar Aq a1:Int)∧(Ar Aq a1:Int)≤(a1.length:Int)∧(a1.length:Int)≤(a1.length:Int))),(5,(0≤(Ar Aq b1:Int)∧(Ar Aq b1:Int)≤(b1.length:Int)∧(b1.length:Int)≤(b1.length:Int)))]) [] [2,3,5,7] [] hk0 v0 (by refine cc _ ?_<|cc _ ?_ c0<;>omega) ?_
         refine M9 ⟨rfl,_,(by kernel_rfl:gcS _ _ _=some ⟨[(2,(.ptr 0 0)),(3,(.ptr 1 0)),(5,(.fn 216 [] [(.ptr 0 0),(.ptr 1 0)])),(7,(.fn 218 [] [(.fp (.agg [(.fn 217 [] [])]))]))],[(0,(.row [(.str ((a1.take a1.length).drop (Ar Aq a1)))] 9)),(1,(.row [(.str ((b1.take b1.length).drop (Ar Aq b1)))] 9))],3⟩),_,?_,k,((a1.take a1.length).drop (Ar Aq a1)),((b1.take b1.length).drop (Ar Aq b1)),?_,?_,?_,?_,(by kernel_rfl),rfl⟩
         all_goals (try simp only[List.take_length,List.drop_zero,List.length_drop] at *)
         have h3:=Ov (p:=Aq) (s:=a1) (by omega) (by simpa using c7)
         ·omega
         ·omega
         ·omega
         ·omega
         ·rw[fl0_4,e0]
          unfold Dn
          rw[if_neg (by simp[c1.1,c1.2]),if_neg (by simp[c3.1,c3.2]),if_neg (by simp[c6.1,c6.2]),if_pos c7,if_neg (by omega),if_neg (fun q=>q c9)]
      ·try simp only[Am] at c7
       refine Ai ?_
       refine Cr [] [2,3,5,7,15,16] [] (hk 1 (al:=[(.str a1),(.fn 161 [] [])]) Hz ((Iy a1 (.fn 161 [] []) B7 (by omega) (fun c=>FunV.of (by exact Mw) (Ob c))).of_args (ImpL.cons Imp.refl (ImpL.cons (Imp.clo rfl) ImpL.nil)))<|hk 3 (al:=[(.str b1),(.fn 161 [] [])]) Hz ((Iy b1 (.fn 161 [] []) B7 (by omega) (fun c=>FunV.of (by exact Mw) (Ob c))).of_args (ImpL.cons Imp.refl (ImpL.cons (Imp.clo rfl) ImpL.nil)))<|hk0) v0 c0 ?_
       refine Ac ?_
       refine Ab [] [2,3,5,7,15,16,122] ?_
       refine A5 (p:=(Ar B7 b1:Int)=0) (by kernel_rfl) (fun c10=>?_) (fun c10=>?_)
       ·refine Ab [] [4] ?_
        refine Ag ?_
        refine RK wR [(.int .i64 (-1))] ?_
        refine Same.of_eq ?_
        simp only[Ak]
        try simp only[List.take_length,List.drop_zero] at *
        rw[fl0_4,e0]
        congr 1
        symm
        unfold Dn
        rw[if_neg (by simp[c1.1,c1.2]),if_neg (by simp[c3.1,c3.2]),if_neg (by simp[c6.1,c6.2]),if_neg (by simp[c7]),if_pos (by omega)]
       ·refine Ai ?_
        refine Ac ?_
        refine Cr (CS:=[(2,(0≤(0:Int)∧(0:Int)≤(Ar B7 a1:Int)∧(Ar B7 a1:Int)≤(a1.length:Int))),(5,(0≤(0:Int)∧(0:Int)≤(Ar B7 b1:Int)∧(Ar B7 b1:Int)≤(b1.length:Int)))]) [] [2,3,5,7,15,16,17] [] (hk 6 Q3l (Q6u ((a1.take (Ar B7 a1)).drop 0) ((b1.take (Ar B7 b1)).drop 0))<|hk0) v0 (by refine cc _ ?_<|cc _ ?_ c0<;>omega) ?_
        refine Ab [] [2,3,5,7,15,16,17,131] ?_
        refine Da (p:=(Lib.compareBytes ((a1.take (Ar B7 a1)).drop 0) ((b1.take (Ar B7 b1)).drop 0))=0) (by kernel_rfl) (fun c11=>?_) (fun c11=>?_)
        ·refine Ab [] [4] ?_
         refine Ag ?_
         refine RK wR [(.int .i64 (Lib.compareBytes ((a1.take (Ar B7 a1)).drop 0) ((b1.take (Ar B7 b1)).drop 0)))] ?_
         refine Same.of_eq ?_
         simp only[Ak]
         try simp only[List.take_length,List.drop_zero] at *
         rw[fl0_4,e0]
         congr 1
         symm
         unfold Dn
         rw[if_neg (by simp[c1.1,c1.2]),if_neg (by simp[c3.1,c3.2]),if_neg (by simp[c6.1,c6.2]),if_neg (by simp[c7]),if_neg (by omega),if_pos c11]
        ·refine Ai ?_
         refine Cr (CS:=[(2,(0≤(Ar B7 a1:Int)∧(Ar B7 a1:Int)≤(a1.length:Int)∧(a1.length:Int)≤(a1.length:Int))),(5,(0≤(Ar B7 b1:Int)∧(Ar B7 b1:Int)≤(b1.length:Int)∧(b1.length:Int)≤(b1.length:Int)))]) [] [2,3,5,7] [] hk0 v0 (by refine cc _ ?_<|cc _ ?_ c0<;>omega) ?_
         refine M9 ⟨rfl,_,(by kernel_rfl:gcS _ _ _=some ⟨[(2,(.ptr 0 0)),(3,(.ptr 1 0)),(5,(.fn 216 [] [(.ptr 0 0),(.ptr 1 0)])),(7,(.fn 218 [] [(.fp (.agg [(.fn 217 [] [])]))]))],[(0,(.row [(.str ((a1.take a1.length).drop (Ar B7 a1)))] 9)),(1,(.row [(.str ((b1.take b1.length).drop (Ar B7 b1)))] 9))],3⟩),_,?_,k,((a1.take a1.length).drop (Ar B7 a1)),((b1.take b1.length).drop (Ar B7 b1)),?_,?_,?_,?_,(by kernel_rfl),rfl⟩
         all_goals (try simp only[List.take_length,List.drop_zero,List.length_drop] at *)
         have hml:B7 (Aj a1 0)=true:=by
          rcases hma with q|q
          ·exact absurd q c6.1
          ·exact Q0y q (by omega) (by simp_all) (by simp_all) (by simp_all)
         have h3:=Ov (p:=B7) (s:=a1) (by omega) hml
         ·omega
         ·omega
         ·omega
         ·omega
         ·rw[fl0_4,e0]
          unfold Dn
          rw[if_neg (by simp[c1.1,c1.2]),if_neg (by simp[c3.1,c3.2]),if_neg (by simp[c6.1,c6.2]),if_neg (by simp[c7]),if_neg (by omega),if_neg (fun q=>q c11)]
end Sv
end
section
open Go Go.RowKit
namespace Sv
attribute [local irreducible] SW SO Bs
set_option maxHeartbeats 1000000
set_option maxRecDepth 100000
theorem Q3x:As Tryz.prog 143:=Az Tryz.func143 (by kernel_rfl) rfl
def H0 (a b:List UInt8):Int:=Dq (a.length+b.length+1) a b
def Gr (a b:List UInt8):Int:=E2 (a.length+b.length+1) a b
theorem Q4i (a b:List UInt8) (ha:a.length≤4194304) (hb:b.length≤4194304):FnV Tryz.prog 178 [.str a,.str b] (.int .i64 (H0 a b)):=X6x _ a b (by omega) ha hb
theorem Xz (a b:List UInt8) (ha:a.length≤4194304) (hb:b.length≤4194304):FnV Tryz.prog 180 [.str a,.str b] (.int .i64 (Gr a b)):=Q8u _ a b (by omega) ha hb
theorem E4 {a:List UInt8} (h:a.length≤4194304):(orS a [48]).length≤4194304:=by unfold orS;split<;>simp[h]
def B5 (k:Int) (a b:(List UInt8 × List UInt8 × List UInt8)):Int × Int :=
 if k=2 then (orI (C3 a.1 b.1) (H0 a.2.1 b.2.1),H0 (orS a.2.2 [48]) (orS b.2.2 [48]))
 else if a.2.2=[]∨b.2.2=[] then (orI (C3 a.1 b.1) (Gr a.2.1 b.2.1),E3 (!decide (a.2.2=[])) (!decide (b.2.2=[])) 1)
 else (orI (C3 a.1 b.1) (Gr a.2.1 b.2.1),Gr a.2.2 b.2.2)
def K7 (a b:List UInt8) (c d:Int):Int:=if c=0∧¬a=[]∧¬b=[] then d else c
def G0 (c op o:Int):Bool :=
 if c < 0 then !decide (Go.bits .and .i64 op 4=0)||!decide (Go.bits .and .i64 o 1=0)
 else if 0 < c then !decide (Go.bits .and .i64 op 1=0)||!decide (Go.bits .and .i64 o 4=0)
 else !decide (Go.bits .and .i64 op o=0)
def Gz (k:Int) (a b:List UInt8):Int:=K7 (A7 k a b).1.2.2 (A7 k a b).2.1.2.2 (B5 k (A7 k a b).1 (A7 k a b).2.1).1 (B5 k (A7 k a b).1 (A7 k a b).2.1).2
def Aa (k op:Int) (a:List UInt8) (o:Int) (b:List UInt8):Bool × Int :=
 if (¬k=1∧¬k=2)∨op < 0∨7 < op∨o < 0∨7 < o then (false,1)
 else if op=0∨o=0 then (true,0)
 else if ¬(A7 k a b).2.2=0 then (false,(A7 k a b).2.2)
 else (G0 (Gz k a b) op o,0)
theorem Q2v (l:List UInt8):(Ct l).1.length≤l.length∧(Ct l).2.1.length≤l.length∧(Ct l).2.2.length≤l.length:=by
 unfold Ct
 split
 ·unfold Ol
  refine⟨?_,?_,?_⟩
  ·show(if _ then _ else _:List UInt8).length≤_
   split<;>simp;omega
  ·show(if _ then _ else _:List UInt8).length≤_
   split<;>(try rw[List.length_take])<;>split<;>simp<;>omega
  ·show(if _ then _ else _:List UInt8).length≤_
   split<;>(try rw[List.length_drop])<;>(try split)<;>simp<;>omega
 ·simp
theorem Rz (k:Int) (a b:List UInt8):(A7 k a b).1.1.length≤a.length∧(A7 k a b).1.2.1.length≤a.length∧(A7 k a b).1.2.2.length≤a.length∧(A7 k a b).2.1.1.length≤b.length∧(A7 k a b).2.1.2.1.length≤b.length∧(A7 k a b).2.1.2.2.length≤b.length:=by
 have h1:=Q2v a
 have h2:=Q2v b
 unfold A7
 split
 ·simp
 ·split<;>simp<;>omega
theorem Y7 (k : Int) (a b : (List UInt8 × List UInt8 × List UInt8)) (ha : a.1.length ≤ 4194304 ∧ a.2.1.length ≤ 4194304 ∧ a.2.2.length ≤ 4194304) (hb : b.1.length ≤ 4194304 ∧ b.2.1.length ≤ 4194304 ∧ b.2.2.length ≤ 4194304) :
  FnV Tryz.prog 143 [(.int .i64 k),(.agg [(.str a.1),(.str a.2.1),(.str a.2.2)]),(.agg [(.str b.1),(.str b.2.1),(.str b.2.2)])] (.tup [.int .i64 (B5 k a b).1,.int .i64 (B5 k a b).2]):=by
 refine A8 [.tmp 6,.tmp 7] Tryz.func143 rfl Tryz.ntmps143 rfl rfl (fun B F hF=>?_)
 refine Af [] [0,4,5] [(1,4),(2,5)] hk0 v0 c0 ?_
 refine Af [] [0,4,5,8] [] (hk 4 Ve (T1 a.1 b.1)<|hk0) v0 c0 ?_
 refine Ac ?_
 refine Ab [] [4,5,8,15] ?_
 refine A5 (p:=k=2) (by kernel_rfl) (fun c1=>?_) (fun c1=>?_)
 ·refine Cr [] [6,7] [(7,22),(11,26),(15,30)] (hk 5 Q3s (Q4i a.2.1 b.2.1 (by omega) (by omega))<|hk 7 Rj (Qg (C3 a.1 b.1) (H0 a.2.1 b.2.1))<|hk 11 Q3r (Zy a.2.2 [48])<|hk 15 Q3r (Zy b.2.2 [48])<|hk 16 Q3s (Q4i (orS a.2.2 [48]) (orS b.2.2 [48]) (by exact E4 (by first|exact ha.2.2|exact hb.2.2)) (by exact E4 (by first|exact ha.2.2|exact hb.2.2)))<|hk0) (vk 7 22 (b:=(Ah [C3 a.1 b.1,H0 a.2.1 b.2.1])) (Imp.list (f:=AV.int .i64) rfl)<|vk 11 26 (b:=(Di ([a.2.2,[48]]))) (Imp.list (f:=AV.str) rfl)<|vk 15 30 (b:=(Di ([b.2.2,[48]]))) (Imp.list (f:=AV.str) rfl)<|v0) c0 ?_
  refine Ag ?_
  refine RK wR [(.int .i64 (orI (C3 a.1 b.1) (H0 a.2.1 b.2.1))),(.int .i64 (H0 (orS a.2.2 [48]) (orS b.2.2 [48])))] ?_
  refine Same.of_eq ?_
  simp only[Ak]
  unfold B5
  rw[if_pos c1]
 ·refine Ai ?_
  refine Af [] [4,5,8] [(7,39)] (hk 5 Q3q (Xz a.2.1 b.2.1 (by omega) (by omega))<|hk 7 Rj (Qg (C3 a.1 b.1) (Gr a.2.1 b.2.1))<|hk0) (vk 7 39 (b:=(Ah [C3 a.1 b.1,Gr a.2.1 b.2.1])) (Imp.list (f:=AV.int .i64) rfl)<|v0) c0 ?_
  refine Ac ?_
  refine Af (CS:=[(5,((!(decide (a.2.2=[])))=true→(!(decide (a.2.2=[])))=true)),(6,((!(decide (a.2.2=[])))=true→(!(decide (a.2.2=[])))=true)),(7,((decide (a.2.2=[]))=false→(!(decide (a.2.2=[])))=true))]) [45,46,47] [4,5,8,48] [] hk0 v0 (by refine cc _ ?_<|cc _ ?_<|cc _ ?_ c0<;>simp) ?_
  refine Bd (q:=(decide (a.2.2=[]))||(decide (b.2.2=[]))) (by kernel_rfl) (fun c2=>?_) (fun c2=>?_)
  ·try simp only[Am] at c2
   refine Af [] [6,7] [] (hk 7 Ri (Qf (!decide (a.2.2=[])) (!decide (b.2.2=[])) 1 (by omega))<|hk0) v0 c0 ?_
   refine Ag ?_
   refine RK wR [(.int .i64 (orI (C3 a.1 b.1) (Gr a.2.1 b.2.1))),(.int .i64 (E3 (!decide (a.2.2=[])) (!decide (b.2.2=[])) 1))] ?_
   refine Same.of_eq ?_
   simp only[Ak]
   unfold B5
   rw[if_neg c1,if_pos c2]
  ·try simp only[Am] at c2
   refine Ai ?_
   refine Af [] [6,7] [] (hk 5 Q3q (Xz a.2.2 b.2.2 (by omega) (by omega))<|hk0) v0 c0 ?_
   refine Ag ?_
   refine RK wR [(.int .i64 (orI (C3 a.1 b.1) (Gr a.2.1 b.2.1))),(.int .i64 (Gr a.2.2 b.2.2))] ?_
   refine Same.of_eq ?_
   simp only[Ak]
   unfold B5
   rw[if_neg c1,if_neg (by simp[c2.1,c2.2])]
theorem X2a (k op : Int) (a : List UInt8) (o : Int) (b : List UInt8) (ha : a.length ≤ 4194304) (hb : b.length ≤ 4194304) :
  FnV Tryz.prog 170 [(.int .i64 k),(.int .i64 op),(.str a),(.int .i64 o),(.str b)] (.tup [.bool (Aa k op a o b).1,.int .i64 (Aa k op a o b).2]):=by
 have hbl:=Rz k a b
 refine A8 [.tmp 10,.tmp 11] Tryz.func170 rfl Tryz.ntmps170 rfl rfl (fun B F hF=>?_)
 refine Ab [] [0,1,2,3,4] ?_
 refine Ac ?_
 refine Ay ?_
 refine Af (CS:=[(4,((!decide (k=1))=true→(!decide (k=1))=true)),(5,((!decide (k=1))=true→(!decide (k=1))=true)),(8,((!((!decide (k=1))&&(!decide (k=2))))=true→(!((!decide (k=1))&&(!decide (k=2))))=true)),(9,(((!decide (k=1))&&(!decide (k=2)))=false→(!((!decide (k=1))&&(!decide (k=2))))=true)),(12,((!(((!decide (k=1))&&(!decide (k=2)))||(decide (op < 0))))=true→(!(((!decide (k=1))&&(!decide (k=2)))||(decide (op < 0))))=true)),(13,((((!decide (k=1))&&(!decide (k=2)))||(decide (op < 0)))=false→(!(((!decide (k=1))&&(!decide (k=2)))||(decide (op < 0))))=true)),(16,((!((((!decide (k=1))&&(!decide (k=2)))||(decide (op < 0)))||(decide (7 < op))))=true→(!((((!decide (k=1))&&(!decide (k=2)))||(decide (op < 0)))||(decide (7 < op))))=true)),(17,(((((!decide (k=1))&&(!decide (k=2)))||(decide (op < 0)))||(decide (7 < op)))=false→(!((((!decide (k=1))&&(!decide (k=2)))||(decide (op < 0)))||(decide (7 < op))))=true)),(20,((!(((((!decide (k=1))&&(!decide (k=2)))||(decide (op < 0)))||(decide (7 < op)))||(decide (o < 0))))=true→(!(((((!decide (k=1))&&(!decide (k=2)))||(decide (op < 0)))||(decide (7 < op)))||(decide (o < 0))))=true)),(21,((((((!decide (k=1))&&(!decide (k=2)))||(decide (op < 0)))||(decide (7 < op)))||(decide (o < 0)))=false→(!(((((!decide (k=1))&&(!decide (k=2)))||(decide (op < 0)))||(decide (7 < op)))||(decide (o < 0))))=true))]) [21,22,25,26,29,30,33,34,37,38] [0,1,2,3,4,17] [] hk0 v0 (by refine cc _ ?_<|cc _ ?_<|cc _ ?_<|cc _ ?_<|cc _ ?_<|cc _ ?_<|cc _ ?_<|cc _ ?_<|cc _ ?_<|cc _ ?_ c0<;>first|omega|(simp;omega)|(simp;done)|(intros;simp_all;omega)|(intros;simp_all;done)) ?_
 refine Bd (q:=(((((!decide (k=1))&&(!decide (k=2)))||(decide (op < 0)))||(decide (7 < op)))||(decide (o < 0)))||(decide (7 < o))) (by kernel_rfl) (fun c1=>?_) (fun c1=>?_)
 ·try simp only[Am] at c1
  refine Ab [] [10,11] ?_
  refine Ag ?_
  refine RK wR [(.bool false),(.int .i64 1)] ?_
  refine Same.of_eq ?_
  simp only[Ak]
  rw[show Aa k op a o b=(false,1) from by unfold Aa;rw[if_pos (by omega)]]
 ·try simp only[Am] at c1
  refine Af (CS:=[(4,((!(decide (op=0)))=true→(!(decide (op=0)))=true)),(5,((decide (op=0))=false→(!(decide (op=0)))=true))]) [44,45] [0,1,2,3,4,40] [] hk0 v0 (by refine cc _ ?_<|cc _ ?_ c0<;>simp) ?_
  refine Bd (q:=(decide (op=0))||(decide (o=0))) (by kernel_rfl) (fun c2=>?_) (fun c2=>?_)
  ·try simp only[Am] at c2
   refine Ab [] [10,11] ?_
   refine Ag ?_
   refine RK wR [(.bool true),(.int .i64 0)] ?_
   refine Same.of_eq ?_
   simp only[Ak]
   rw[show Aa k op a o b=(true,0) from by unfold Aa;rw[if_neg (by omega),if_pos (by omega)]]
  ·try simp only[Am] at c2
   refine Ai ?_
   refine Af [] [0,1,3,12,13,14] [(11,12),(12,13)] (hk 3 Q3y (Q42 k a b (by omega) (by omega))<|hk0) v0 c0 ?_
   refine Ac ?_
   refine Ab [] [0,1,3,12,13,14,56] ?_
   refine Da (p:=((A7 k a b).2.2)=0) (by kernel_rfl) (fun c3=>?_) (fun c3=>?_)
   ·refine Ab [] [10,11] ?_
    refine Ag ?_
    refine RK wR [(.bool false),(.int .i64 ((A7 k a b).2.2))] ?_
    refine Same.of_eq ?_
    simp only[Ak]
    rw[show Aa k op a o b=(false,(A7 k a b).2.2) from by unfold Aa;rw[if_neg (by omega),if_neg (by omega),if_pos (by omega)]]
   ·refine Ai ?_
    refine Af [] [1,3,12,13,15,16] [] (hk 3 Q3x (Y7 k (A7 k a b).1 (A7 k a b).2.1 ⟨by omega,by omega,by omega⟩ ⟨by omega,by omega,by omega⟩)<|hk0) v0 c0 ?_
    refine Dm (fun y=>∃(c:Int),c=K7 (A7 k a b).1.2.2 (A7 k a b).2.1.2.2 (B5 k (A7 k a b).1 (A7 k a b).2.1).1 (B5 k (A7 k a b).1 (A7 k a b).2.1).2∧y=⟨[(1,(.int .i64 op)),(3,(.int .i64 o)),(15,(.int .i64 c))],[],2⟩) [1,3,15] 2 (by omega) ?_ ?_
    ·refine Af (CS:=[(4,((decide (((B5 k (A7 k a b).1 (A7 k a b).2.1).1)=0))=true→(decide (((B5 k (A7 k a b).1 (A7 k a b).2.1).1)=0))=true)),(5,((decide (((B5 k (A7 k a b).1 (A7 k a b).2.1).1)=0))=true→(decide (((B5 k (A7 k a b).1 (A7 k a b).2.1).1)=0))=true)),(6,((decide (((B5 k (A7 k a b).1 (A7 k a b).2.1).1)=0))=true→(decide (((B5 k (A7 k a b).1 (A7 k a b).2.1).1)=0))=true)),(9,(((decide (((B5 k (A7 k a b).1 (A7 k a b).2.1).1)=0))&&(!decide (((A7 k a b).1).2.2=[])))=true→((decide (((B5 k (A7 k a b).1 (A7 k a b).2.1).1)=0))&&(!decide (((A7 k a b).1).2.2=[])))=true)),(10,(((decide (((B5 k (A7 k a b).1 (A7 k a b).2.1).1)=0))&&(!decide (((A7 k a b).1).2.2=[])))=true→((decide (((B5 k (A7 k a b).1 (A7 k a b).2.1).1)=0))&&(!decide (((A7 k a b).1).2.2=[])))=true)),(11,(((decide (((B5 k (A7 k a b).1 (A7 k a b).2.1).1)=0))&&(!decide (((A7 k a b).1).2.2=[])))=true→((decide (((B5 k (A7 k a b).1 (A7 k a b).2.1).1)=0))&&(!decide (((A7 k a b).1).2.2=[])))=true))]) [68,69,70,73,74,75] [1,3,15,16,76] [] hk0 v0 (by refine cc _ ?_<|cc _ ?_<|cc _ ?_<|cc _ ?_<|cc _ ?_<|cc _ ?_ c0<;>simp) ?_
     refine Bd (q:=((decide (((B5 k (A7 k a b).1 (A7 k a b).2.1).1)=0))&&(!decide (((A7 k a b).1).2.2=[])))&&(!decide (((A7 k a b).2.1).2.2=[]))) (by kernel_rfl) (fun c4=>?_) (fun c4=>?_)
     ·try simp only[Am] at c4
      refine An ?_
      refine Ei [] [1,3,15] ?_
      refine⟨by kernel_rfl,((B5 k (A7 k a b).1 (A7 k a b).2.1).2),?_,(by kernel_rfl)⟩
      unfold K7
      rw[if_pos (by simp_all)]
     ·try simp only[Am] at c4
      refine Ai ?_
      refine⟨by kernel_rfl,((B5 k (A7 k a b).1 (A7 k a b).2.1).1),?_,(by kernel_rfl)⟩
      unfold K7
      rw[if_neg (fun q=>by simp[q.1,q.2.1,q.2.2] at c4)]
    ·rintro y1 ⟨c,jc,rfl⟩
     refine Ac ?_
     refine Ay ?_
     refine Ab [] [1,3,15,78] ?_
     refine A5 (p:=c < 0) (by kernel_rfl) (fun c5=>?_) (fun c5=>?_)
     ·refine Ac ?_
      refine An ?_
      refine B2 1 0 [] [3,81] [] hk0 v0 c0 ?_
      refine Pc (s':=[(3,(.int .i64 o)),(81,(.int .i64 op)),(82,(.int .i64 (Go.bits .and .i64 op 4)))]) (.int .i64 (Go.bits .and .i64 op 4)) (by kernel_rfl) (O2 (.inl (by kernel_rfl)) (.inl (by kernel_rfl))) (by kernel_rfl) ?_
      refine B2 3 2 [85] [84,85] [] hk0 v0 c0 ?_
      refine Q6g (s':=[(84,(.bool (!decide ((Go.bits .and .i64 op 4)=0)))),(85,(.cond (!(!decide ((Go.bits .and .i64 op 4)=0))) (.int .i64 o))),(86,(.cond (!(!decide ((Go.bits .and .i64 op 4)=0))) (.int .i64 (Go.bits .and .i64 o 1))))]) (q:=!(!decide ((Go.bits .and .i64 op 4)=0))) (.int .i64 (Go.bits .and .i64 o 1)) (by kernel_rfl) (fun cg=>(O2 (.inr ⟨!(!decide ((Go.bits .and .i64 op 4)=0)),by kernel_rfl,by first|exact cg|simp_all⟩) (.inl (by kernel_rfl)))) (by kernel_rfl) ?_
      refine Au (CS:=[(6,((!(!decide ((Go.bits .and .i64 op 4)=0)))=true→(!(!decide ((Go.bits .and .i64 op 4)=0)))=true)),(7,((!decide ((Go.bits .and .i64 op 4)=0))=false→(!(!decide ((Go.bits .and .i64 op 4)=0)))=true))]) 6 [87] [10,11] [] hk0 v0 (by refine cc _ ?_<|cc _ ?_ c0<;>simp) ?_
      refine Ag ?_
      refine RK wR [(.bool ((!decide ((Go.bits .and .i64 op 4)=0))||(!decide ((Go.bits .and .i64 o 1)=0)))),(.int .i64 0)] ?_
      refine Same.of_eq ?_
      simp only[Ak]
      rw[show Aa k op a o b=(G0 (Gz k a b) op o,0) from by unfold Aa;rw[if_neg (by omega),if_neg (by omega),if_neg (by omega)]]
      rw[show Gz k a b=c from jc.symm]
      unfold G0
      rw[if_pos (by omega)]
     ·refine Ab [] [1,3,89] ?_
      refine A5 (p:=0 < c) (by kernel_rfl) (fun c6=>?_) (fun c6=>?_)
      ·refine Ac ?_
       refine An ?_
       refine B2 1 0 [] [3,92] [] hk0 v0 c0 ?_
       refine Pc (s':=[(3,(.int .i64 o)),(92,(.int .i64 op)),(93,(.int .i64 (Go.bits .and .i64 op 1)))]) (.int .i64 (Go.bits .and .i64 op 1)) (by kernel_rfl) (O2 (.inl (by kernel_rfl)) (.inl (by kernel_rfl))) (by kernel_rfl) ?_
       refine B2 3 2 [96] [95,96] [] hk0 v0 c0 ?_
       refine Q6g (s':=[(95,(.bool (!decide ((Go.bits .and .i64 op 1)=0)))),(96,(.cond (!(!decide ((Go.bits .and .i64 op 1)=0))) (.int .i64 o))),(97,(.cond (!(!decide ((Go.bits .and .i64 op 1)=0))) (.int .i64 (Go.bits .and .i64 o 4))))]) (q:=!(!decide ((Go.bits .and .i64 op 1)=0))) (.int .i64 (Go.bits .and .i64 o 4)) (by kernel_rfl) (fun cg=>(O2 (.inr ⟨!(!decide ((Go.bits .and .i64 op 1)=0)),by kernel_rfl,by first|exact cg|simp_all⟩) (.inl (by kernel_rfl)))) (by kernel_rfl) ?_
       refine Au (CS:=[(6,((!(!decide ((Go.bits .and .i64 op 1)=0)))=true→(!(!decide ((Go.bits .and .i64 op 1)=0)))=true)),(7,((!decide ((Go.bits .and .i64 op 1)=0))=false→(!(!decide ((Go.bits .and .i64 op 1)=0)))=true))]) 6 [98] [10,11] [] hk0 v0 (by refine cc _ ?_<|cc _ ?_ c0<;>simp) ?_
       refine Ag ?_
       refine RK wR [(.bool ((!decide ((Go.bits .and .i64 op 1)=0))||(!decide ((Go.bits .and .i64 o 4)=0)))),(.int .i64 0)] ?_
       refine Same.of_eq ?_
       simp only[Ak]
       rw[show Aa k op a o b=(G0 (Gz k a b) op o,0) from by unfold Aa;rw[if_neg (by omega),if_neg (by omega),if_neg (by omega)]]
       rw[show Gz k a b=c from jc.symm]
       unfold G0
       rw[if_neg (by omega),if_pos (by omega)]
      ·refine Ai ?_
       refine Ac ?_
       refine An ?_
       refine B2 2 0 [] [100,101] [] hk0 v0 c0 ?_
       refine Pc (s':=[(100,(.int .i64 op)),(101,(.int .i64 o)),(102,(.int .i64 (Go.bits .and .i64 op o)))]) (.int .i64 (Go.bits .and .i64 op o)) (by kernel_rfl) (O2 (.inl (by kernel_rfl)) (.inl (by kernel_rfl))) (by kernel_rfl) ?_
       refine Au 3 [] [10,11] [] hk0 v0 c0 ?_
       refine Ag ?_
       refine RK wR [(.bool (!decide ((Go.bits .and .i64 op o)=0))),(.int .i64 0)] ?_
       refine Same.of_eq ?_
       simp only[Ak]
       rw[show Aa k op a o b=(G0 (Gz k a b) op o,0) from by unfold Aa;rw[if_neg (by omega),if_neg (by omega),if_neg (by omega)]]
       rw[show Gz k a b=c from jc.symm]
       unfold G0
       rw[if_neg (by omega),if_neg (by omega)]
theorem Q0x:I0 Aa:=fun k op a o b ha hb=>X2a k op a o b ha hb
end Sv
end
section
open Go Go.RowKit
namespace Sv
attribute [local irreducible] SW SO Bs
set_option maxHeartbeats 1000000
set_option maxRecDepth 100000
theorem Re:As Tryz.prog 33:=Az Tryz.func33 (by kernel_rfl) rfl
theorem X4p:As Tryz.prog 61:=Az Tryz.func61 (by kernel_rfl) rfl
theorem Hp {α:Type} [Inhabited α] {l:List α} {i:Nat} (h:i < l.length):l.take (i+1)=l.take i++[nth l i]:=by
 rw[List.take_add_one,T2 h];rfl
theorem P1 {α β:Type} [Inhabited α] {l:List α} {i m:Nat} (f:α→β) (h:i+m≤l.length):(List.range m).map (fun k=>f (nth l (i+k)))=((l.drop i).take m).map f:=by
 refine List.ext_getElem (by simp;omega) fun j h1 h2=>?_
 simp only[List.length_map,List.length_range] at h1
 simp only[List.getElem_map,List.getElem_range,List.getElem_take,List.getElem_drop,nth,List.getElem?_eq_getElem (show i+j < l.length by omega),Option.getD_some]
theorem Tm {α β:Type} [Inhabited α] {l:List α} {i:Nat} (f:α→β) (h:i≤l.length):(List.range (l.length-i)).map (fun k=>f (nth l (i+k)))=(l.drop i).map f:=by
 rw[P1 f (by omega),List.take_of_length_le (by simp)]
def C5 (n:Int):List Int→List Int
 |[]=>[n]
 |x::r=>if x < n then x::C5 n r else if x=n then x::r else n::x::r
theorem Q94 {n:Int} {l:List Int} {i:Nat} (hi:i < l.length) (h:nth l i < n):C5 n (l.drop i)=nth l i::C5 n (l.drop (i+1)):=by rw[My hi,C5,if_pos h]
theorem Q93 {n:Int} {l:List Int} {i:Nat} (hi:i < l.length) (h:¬nth l i < n) (h2:nth l i=n):C5 n (l.drop i)=l.drop i:=by rw[My hi,C5,if_neg h,if_pos h2]
theorem Tr {n:Int} {l:List Int} {i:Nat} (h:i < l.length→¬nth l i < n∧¬nth l i=n):C5 n (l.drop i)=n::l.drop i:=by
 by_cases hi:i < l.length
 ·rw[My hi,C5,if_neg (h hi).1,if_neg (h hi).2]
 ·rw[List.drop_eq_nil_of_le (by omega)];rfl
theorem put1_mem {x n:Int}:∀{l:List Int},x∈C5 n l↔x=n∨x∈l
 |[]=>by simp[C5]
 |y::r=>by
  unfold C5
  split
  ·rw[List.mem_cons,put1_mem,List.mem_cons]
   constructor
   ·rintro (h|h|h)<;>simp[h]
   ·rintro (h|h|h)<;>simp[h]
  ·split
   ·rename_i h;subst h;simp
   ·rw[List.mem_cons]
def C4:List Int→Prop
 |[]=>True
 |x::r=>(∀y∈r,x < y)∧C4 r
theorem Yu {n:Int}:∀{l:List Int},C4 l→C4 (C5 n l)
 |[],_=>⟨by simp,trivial⟩
 |y::r,h=>by
  unfold C5
  split
  ·rename_i hy
   refine⟨fun z hz=>?_,Yu h.2⟩
   rcases put1_mem.1 hz with rfl|hz
   ·exact hy
   ·exact h.1 z hz
  ·split
   ·exact h
   ·rename_i h1 h2
    refine⟨fun z hz=>?_,h⟩
    rcases List.mem_cons.1 hz with rfl|hz
    ·omega
    ·have:=h.1 z hz;omega
theorem P7 (l : List Int) (n : Int) (hl : l.length ≤ 4611686018427) :
  FnV Tryz.prog 33 [(Ah l),(.int .i64 n)] (Ah (C5 n l)):=by
 refine A8 [.tmp 4] Tryz.func33 rfl Tryz.ntmps33 rfl rfl (fun B F hF=>?_)
 refine Ab [] [0,1] ?_
 refine Ab [] [0,1,5] ?_
 refine Ac ?_
 refine Ay ?_
 refine Bz (fun g y=>∃(i:Nat),i≤l.length∧C5 n l=l.take i++C5 n (l.drop i)∧y=⟨[(0,(Ah l)),(1,(.int .i64 n)),(5,(.int .i64 ((i:Int))))],[],0⟩∧g=l.length-i) [0,1,5] 0 _ (by omega) ⟨0,(by omega),(by rfl),(by kernel_rfl),rfl⟩ ?_
 rintro g1 y1 ⟨i,f1_1,f1_2,rfl,rfl⟩
 refine Ac ?_
 obtain⟨b1,hb1⟩:∃b,b=(decide ((i:Int) < (l.length:Int))):=⟨_,rfl⟩
 refine Af (CS:=[(7,(b1=true→(b1=true∧b1=true)∧(0≤(i:Int)∧i < l.length))),(8,(b1=true→b1=true)),(10,(b1=true→b1=true∧b1=true)),(11,(b1=true→b1=true))]) [11,12,13,14,15,16] [0,1,5,17] [] hk0 (vk 5 10 (a:=.bool (decide ((i:Int) < (l.length:Int)))) (b:=.bool b1) (Imp.of_eq (by rw[hb1]))<|v0) (by refine cc _ ?_<|cc _ ?_<|cc _ ?_<|cc _ ?_ c0<;>(intros;simp_all;done)) ?_
 refine Bd (q:=b1&&(decide ((nth l i) < n))) (by kernel_rfl) (fun c1=>?_) (fun c1=>?_)
 ·subst hb1
  try simp only[Am] at c1
  refine Ai ?_
  refine Ay ?_
  refine An ?_
  refine Au 0 [] [0,1,5] [] hk0 v0 (cc 1 (p:=(-9223372036854775808≤(i:Int)+1∧(i:Int)+1≤9223372036854775807)) (by omega)<|c0) ?_
  refine⟨by kernel_rfl,_,?_,i+1,?_,?_,(by kernel_rfl),rfl⟩
  all_goals first|omega|skip
  rw[f1_2,Q94 (by omega) (by simp_all),Hp (by omega),List.append_assoc];rfl
 ·subst hb1
  try simp only[Am] at c1
  refine Bp ?_
  refine Ac ?_
  obtain⟨b2,hb2⟩:∃b,b=(decide ((i:Int) < (l.length:Int))):=⟨_,rfl⟩
  refine Af (CS:=[(7,(b2=true→(b2=true∧b2=true)∧(0≤(i:Int)∧i < l.length))),(8,(b2=true→b2=true)),(10,(b2=true→b2=true∧b2=true)),(11,(b2=true→b2=true))]) [25,26,27,28,29,30] [0,1,5,31] [] hk0 (vk 5 24 (a:=.bool (decide ((i:Int) < (l.length:Int)))) (b:=.bool b2) (Imp.of_eq (by rw[hb2]))<|v0) (by refine cc _ ?_<|cc _ ?_<|cc _ ?_<|cc _ ?_ c0<;>(intros;simp_all;done)) ?_
  refine Bd (q:=b2&&(decide ((nth l i)=n))) (by kernel_rfl) (fun c2=>?_) (fun c2=>?_)
  ·subst hb2
   try simp only[Am] at c2
   refine Ab [] [4] ?_
   refine Ag ?_
   refine RK wR [(Ah l)] ?_
   exact Same.of_eq (by rw[f1_2,Q93 (by omega) (by simp_all) (by simp_all),List.take_append_drop];rfl)
  ·subst hb2
   try simp only[Am] at c2
   refine Ai ?_
   refine Ac ?_
   refine Kk (by kernel_rfl) (fun F1 hF1=>?_)
   refine Dh (fuel:=6) [] [1,2,3,5,8,9,10] [36,38,43] (hold (p:=(0≤(0:Int)∧(0:Int)≤(i:Int)∧(i:Int)≤(l.length:Int))∧(0≤(i:Int)∧(i:Int)≤(l.length:Int)∧(l.length:Int)≤(l.length:Int))) (by omega)) ?_
   refine C2 0 6 (by kernel_rfl) ?_ ?_
   ·refine Bi (fuel:=5) 0 [] Bc ?_
    refine A9 [33,36,38,43] ?_
    refine C2 4 6 (by kernel_rfl) ?_ ?_
    ·refine Bi (fuel:=4) 4 [] (hold (p:=((([]:List AV).length+(i-0))*8≤140737488355328)) (by(simp;omega))) ?_
     refine A9 [37,38,43] ?_
     refine Dg (fuel:=3) 6 [] Bc ?_
     refine Dg (fuel:=2) 7 [] (hold (p:=(((([]:List AV)++((List.range (i-0)).map (fun kx=>((.int .i64 (nth l (0+kx))):AV)))).length+1)*8≤140737488355328)) (by(simp;omega))) ?_
     refine Dg (fuel:=1) 11 [] (hold (p:=((((([]:List AV)++((List.range (i-0)).map (fun kx=>((.int .i64 (nth l (0+kx))):AV))))++([(.int .i64 n)]:List AV)).length+(l.length-i))*8≤140737488355328)) (by(simp;omega))) ?_
     refine Dh (fuel:=0) [] [12] [4] Bc ?_
     refine A9 [4] ?_
     refine Ho (by kernel_rfl) ?_
     refine Ag ?_
     refine RK wR [(.row 1 (((([]:List AV)++((List.range (i-0)).map (fun kx=>((.int .i64 (nth l (0+kx))):AV))))++([(.int .i64 n)]:List AV))++((List.range (l.length-i)).map (fun kx=>((.int .i64 (nth l (i+kx))):AV)))).length (fun ix=>(((([]:List AV)++((List.range (i-0)).map (fun kx=>((.int .i64 (nth l (0+kx))):AV))))++([(.int .i64 n)]:List AV))++((List.range (l.length-i)).map (fun kx=>((.int .i64 (nth l (i+kx))):AV)))).getD ix Br))] ?_
     simp only[Ak]
     exact Same.grown (f:=AV.int .i64) (l:=C5 n l) (by rw[f1_2,Tr (fun _=>by simp_all),P1 (AV.int .i64) (by omega),Tm (AV.int .i64) (by omega)];simp[Fh])
    ·refine Bi (fuel:=4) 6 [] Bc ?_
     refine A9 [33,36,39,43] ?_
     refine Dg (fuel:=3) 4 [] (hold (p:=((([]:List AV).length+(i-0))*8≤140737488355328)) (by(simp;omega))) ?_
     refine Dg (fuel:=2) 7 [] (hold (p:=(((([]:List AV)++((List.range (i-0)).map (fun kx=>((.int .i64 (nth l (0+kx))):AV)))).length+1)*8≤140737488355328)) (by(simp;omega))) ?_
     refine Dg (fuel:=1) 11 [] (hold (p:=((((([]:List AV)++((List.range (i-0)).map (fun kx=>((.int .i64 (nth l (0+kx))):AV))))++([(.int .i64 n)]:List AV)).length+(l.length-i))*8≤140737488355328)) (by(simp;omega))) ?_
     refine Dh (fuel:=0) [] [12] [4] Bc ?_
     refine A9 [4] ?_
     refine Ho (by kernel_rfl) ?_
     refine Ag ?_
     refine RK wR [(.row 1 (((([]:List AV)++((List.range (i-0)).map (fun kx=>((.int .i64 (nth l (0+kx))):AV))))++([(.int .i64 n)]:List AV))++((List.range (l.length-i)).map (fun kx=>((.int .i64 (nth l (i+kx))):AV)))).length (fun ix=>(((([]:List AV)++((List.range (i-0)).map (fun kx=>((.int .i64 (nth l (0+kx))):AV))))++([(.int .i64 n)]:List AV))++((List.range (l.length-i)).map (fun kx=>((.int .i64 (nth l (i+kx))):AV)))).getD ix Br))] ?_
     simp only[Ak]
     exact Same.grown (f:=AV.int .i64) (l:=C5 n l) (by rw[f1_2,Tr (fun _=>by simp_all),P1 (AV.int .i64) (by omega),Tm (AV.int .i64) (by omega)];simp[Fh])
   ·refine Bi (fuel:=5) 6 [] Bc ?_
    refine A9 [36,39,43] ?_
    refine Dg (fuel:=4) 0 [] Bc ?_
    refine Dg (fuel:=3) 4 [] (hold (p:=((([]:List AV).length+(i-0))*8≤140737488355328)) (by(simp;omega))) ?_
    refine Dg (fuel:=2) 7 [] (hold (p:=(((([]:List AV)++((List.range (i-0)).map (fun kx=>((.int .i64 (nth l (0+kx))):AV)))).length+1)*8≤140737488355328)) (by(simp;omega))) ?_
    refine Dg (fuel:=1) 11 [] (hold (p:=((((([]:List AV)++((List.range (i-0)).map (fun kx=>((.int .i64 (nth l (0+kx))):AV))))++([(.int .i64 n)]:List AV)).length+(l.length-i))*8≤140737488355328)) (by(simp;omega))) ?_
    refine Dh (fuel:=0) [] [12] [4] Bc ?_
    refine A9 [4] ?_
    refine Ho (by kernel_rfl) ?_
    refine Ag ?_
    refine RK wR [(.row 1 (((([]:List AV)++((List.range (i-0)).map (fun kx=>((.int .i64 (nth l (0+kx))):AV))))++([(.int .i64 n)]:List AV))++((List.range (l.length-i)).map (fun kx=>((.int .i64 (nth l (i+kx))):AV)))).length (fun ix=>(((([]:List AV)++((List.range (i-0)).map (fun kx=>((.int .i64 (nth l (0+kx))):AV))))++([(.int .i64 n)]:List AV))++((List.range (l.length-i)).map (fun kx=>((.int .i64 (nth l (i+kx))):AV)))).getD ix Br))] ?_
    simp only[Ak]
    exact Same.grown (f:=AV.int .i64) (l:=C5 n l) (by rw[f1_2,Tr (fun _=>by simp_all),P1 (AV.int .i64) (by omega),Tm (AV.int .i64) (by omega)];simp[Fh])
theorem Q9p (st : PoolT) (pl : List (Int × Int)) :
  FnV Tryz.prog 61 [(.fp (B9 st pl))] (.int .i64 ((pl.length:Int))):=by
 refine A8 [.tmp 2] Tryz.func61 rfl Tryz.ntmps61 rfl rfl (fun B F hF=>?_)
 refine Ab [] [0] ?_
 refine Ab [] [2] ?_
 refine Ag ?_
 refine RK wR [(.int .i64 ((pl.length:Int)))] ?_
 exact Same.of_eq (by first|rfl|(simp only[Ak];simp_all))
end Sv
end
section
open Go Go.RowKit
namespace Sv
def Fk (st:PoolT) (pl:List (Int × Int)):Prop:=pl.length=st.all.length∧∀i,i < st.all.length→0≤(nth pl i).1∧(nth pl i).1 < st.repos.length∧0≤(nth pl i).2∧(nth pl i).2 < (nth st.repos (nth pl i).1.toNat).pkgs.length ∧
  nth (nth st.repos (nth pl i).1.toNat).pkgs (nth pl i).2.toNat=(nth st.all i).1∧(nth pl i).1=(nth st.all i).2
def Q6w (l:List RepoT) (st:PoolT):Prop:=∀q∈st.all,∃r∈l,q.1∈r.pkgs
theorem T4 {α:Type} [Inhabited α] {l m:List α} {i:Nat} (h:i < l.length):nth (l++m) i=nth l i:=by
  simp only[nth];rw[List.getElem?_append_left h]
theorem T3 {α:Type} [Inhabited α] {l m:List α} {i:Nat} (h:l.length≤i):nth (l++m) i=nth m (i-l.length):=by
  simp only[nth];rw[List.getElem?_append_right h]
theorem V6 {k:Int} {l:List RepoT} {r:RepoT}:A1 k (l++[r])=(Cn (A1 k l).1 r,Fi (A1 k l).2 (A1 k l).1 r):=by
  unfold A1;rw[List.foldl_append];rfl
theorem S2 {α:Type} {C:List α→Prop} (h0:C []) (h:∀l a,C l→C (l++[a])) (l:List α):C l:=by
  rw[←List.reverse_reverse l]
  induction l.reverse with
  |nil=>exact h0
  |cons a r ih=>rw[List.reverse_cons];exact h _ _ ih
theorem X7j (k:Int):∀l:List RepoT,Q6w l (A1 k l).1:=by
  refine S2 (C:=fun l=>Q6w l (A1 k l).1) (fun q hq=>by cases hq) fun l r ih=>?_
  rw[V6]
  intro q hq
  have old:q∈(A1 k l).1.all→∃r'∈l++[r],q.1∈r'.pkgs:=fun h=>by
    obtain⟨r',h1,h2⟩:=ih q h
    exact⟨r',List.mem_append_left _ h1,h2⟩
  unfold Cn at hq
  split at hq
  · simp only[A6,List.take_length] at hq
    rcases List.mem_append.1 hq with h|h
    · exact old h
    · obtain⟨p,hp,rfl⟩:=List.mem_map.1 h
      exact⟨r,by simp,hp⟩
  · exact old hq
theorem Q45 {k:Int} {l:List RepoT} (h:∀i,i < l.length→(nth l i).size≤4194304):IdxOk (A1 k l).1:=by
  refine⟨(Q44 k l).2.1,fun i hi=>?_⟩
  obtain⟨r,hr,hp⟩:=X7j k l (nth (A1 k l).1.all i) (by rw[Dy hi];exact List.getElem_mem hi)
  obtain⟨a,ha,rfl⟩:=List.getElem_of_mem hr
  obtain⟨b,hb,e⟩:=List.getElem_of_mem hp
  have h1:=RepoT.size_pkg hb
  have h2:=h a ha
  rw[Dy ha] at h2
  rw[Dy hb,e] at h1
  omega
theorem X7k (k:Int):∀l:List RepoT,Fk (A1 k l).1 (A1 k l).2:=by
  refine S2 (C:=fun l=>Fk (A1 k l).1 (A1 k l).2) ⟨rfl,fun i hi=>by simp[A1] at hi⟩ fun l r ih=>?_
  rw[V6]
  generalize (A1 k l).1=st at ih
  generalize (A1 k l).2=pl at ih
  show Fk (Cn st r) (Fi pl st r)
  by_cases he:Cv st r=0
  · have e1:Cn st r=⟨st.kind,st.repos++[r],A6 st r r.pkgs.length⟩:=if_pos he
    have e2:Fi pl st r=Dc pl st r r.pkgs.length:=if_pos he
    rw[e1,e2]
    have hl:(A6 st r r.pkgs.length).length=st.all.length+r.pkgs.length:=by simp[A6]
    have hl2:(Dc pl st r r.pkgs.length).length=pl.length+r.pkgs.length:=by simp[Dc]
    refine⟨by show(Dc pl st r r.pkgs.length).length=(A6 st r r.pkgs.length).length;rw[hl,hl2,ih.1],fun i hi=>?_⟩
    have hi:i < (A6 st r r.pkgs.length).length:=hi
    rw[hl] at hi
    show 0≤(nth (Dc pl st r r.pkgs.length) i).1∧(nth (Dc pl st r r.pkgs.length) i).1 < ((st.repos++[r]).length:Int)∧0≤(nth (Dc pl st r r.pkgs.length) i).2∧(nth (Dc pl st r r.pkgs.length) i).2 < ((nth (st.repos++[r]) (nth (Dc pl st r r.pkgs.length) i).1.toNat).pkgs.length:Int)∧nth (nth (st.repos++[r]) (nth (Dc pl st r r.pkgs.length) i).1.toNat).pkgs (nth (Dc pl st r r.pkgs.length) i).2.toNat=(nth (A6 st r r.pkgs.length) i).1∧(nth (Dc pl st r r.pkgs.length) i).1=(nth (A6 st r r.pkgs.length) i).2
    unfold Dc A6
    by_cases h:i < st.all.length
    · have k:=ih.2 i h
      rw[T4 (l:=pl) (by rw[ih.1];exact h),T4 (l:=st.all) h,T4 (l:=st.repos) (by omega)]
      exact⟨k.1,by rw[List.length_append];omega,k.2.2.1,k.2.2.2.1,k.2.2.2.2.1,k.2.2.2.2.2⟩
    · obtain⟨j,rfl⟩:∃j,i=st.all.length+j:=⟨i-st.all.length,by omega⟩
      have hj:j < r.pkgs.length:=by omega
      rw[T3 (l:=pl) (by rw[ih.1];omega),T3 (l:=st.all) (by omega),show st.all.length+j-pl.length=j by rw[ih.1];omega,show st.all.length+j-st.all.length=j by omega,List.take_length]
      have a1:nth ((List.range r.pkgs.length).map fun (k:Nat)=>((st.repos.length:Int),(k:Int))) j=((st.repos.length:Int),(j:Int)):=by simp[nth,hj]
      have a2:nth (r.pkgs.map fun p=>(p,(st.repos.length:Int))) j=(nth r.pkgs j,(st.repos.length:Int)):=by simp[nth,hj]
      rw[a1,a2]
      have a3:nth (st.repos++[r]) ((st.repos.length:Int)).toNat=r:=by rw[T3 (by simp)];simp[nth]
      refine⟨Int.natCast_nonneg _,by rw[List.length_append,List.length_singleton];show(st.repos.length:Int) < _;omega,Int.natCast_nonneg _,?_,?_,rfl⟩
      · show(j:Int) < ((nth (st.repos++[r]) ((st.repos.length:Int)).toNat).pkgs.length:Int)
        rw[a3];omega
      · show nth (nth (st.repos++[r]) ((st.repos.length:Int)).toNat).pkgs ((j:Int)).toNat=nth r.pkgs j
        rw[a3];rfl
  · have e1:Cn st r=st:=if_neg he
    have e2:Fi pl st r=pl:=if_neg he
    rw[e1,e2];exact ih
end Sv
end
section
open Go Go.RowKit
namespace Sv
attribute [local irreducible] SW SO Bs
set_option maxHeartbeats 400000
set_option maxRecDepth 100000
end Sv
end
section
open Go Go.RowKit
namespace Sv
abbrev Q6r:=Int→Int→List UInt8→Int→List UInt8→Bool × Int
theorem Q18 {k:Int}:∀{l:List DepT} {i:Nat},argsForm k l=true→i < l.length→Cq (nth l i)=true
  |[],i,_,hi=>by simp at hi
  |d::r,i,h,hi=>by
    unfold argsForm at h
    simp only[Bool.and_eq_true] at h
    cases i with
    |zero=>exact h.2.1
    |succ i=>exact Q18 (l:=r) h.2.2 (by simpa using hi)
theorem Q15 {k op:Int} {nm ev:List UInt8} {args:List DepT} (h:Cq (.mk k nm op ev args)=true) (hk:¬k=1):2≤args.length∧argsForm k args=true∧2≤k∧k≤6:=by
  unfold Cq at h
  rw[if_neg hk] at h
  simp only[Bool.and_eq_true,Bool.not_eq_true',Gj,decide_eq_false_iff_not,not_or] at h
  exact⟨by omega,h.2,by omega,by omega⟩
theorem X3r {op:Int} {nm ev:List UInt8} {args:List DepT} (h:Cq (.mk 1 nm op ev args)=true):args=[]:=by
  unfold Cq at h
  rw[if_pos rfl] at h
  by_cases q:B1 nm=true∧0≤op∧op≤7∧args.length=0
  · exact List.length_eq_zero_iff.1 q.2.2.2
  · rw[Ut q] at h;cases h
theorem Q13 {d:DepT} (h:Cq d=true) {i:Nat} (hi:i < d.args.length):Cq (nth d.args i)=true:=by
  obtain⟨k,nm,op,ev,args⟩:=d
  by_cases hk:k=1
  · subst hk
    have e:=X3r h
    have hi:i < args.length:=hi
    rw[e] at hi;simp at hi
  · exact Q18 (Q15 h hk).2.1 hi
theorem Q16 {d:DepT} (h:Cq d=true) (hk:¬d.kind=1):2≤d.args.length:=by
  obtain⟨k,nm,op,ev,args⟩:=d
  exact(Q15 h hk).1
section
variable {m : Q6r} {st : PoolT} {s : List Int}
theorem X13 {d:DepT} (h:Cu d=0) (hs:∀x∈s,0≤x∧x < st.all.length):C6 m st d s=(Ci m st s d.size d,0):=by
  have:(s.any fun id=>decide (id < 0)||decide ((st.all.length:Int)≤id))=false:=by
    rw[List.any_eq_false]
    intro x hx
    have:=hs x hx
    simp only[Bool.or_eq_true,decide_eq_true_eq];omega
  unfold C6
  rw[if_pos h,this]
  rfl
end
section
variable {m : Q6r} {st : PoolT} {s : List Int}
end
end Sv
end
section
open Go Go.RowKit
namespace Sv
theorem Y3 {p:PkgT} (h:Dp p=0):B1 p.name=true∧Cj p.evr=0∧Ex p=true∧Ir p.files=true:=by
  unfold Dp at h
  split at h
  · cases h
  · split at h
    · cases h
    · split at h
      · cases h
      · split at h
        · cases h
        · split at h
          · cases h
          · split at h
            · cases h
            · exact⟨by simp_all,by omega,by simp_all,by simp_all⟩
theorem Q43 (k:Int):∀l:List RepoT,∀q∈(A1 k l).1.all,Dp q.1=0:=by
  refine S2 (C:=fun l=>∀q∈(A1 k l).1.all,Dp q.1=0) (fun q hq=>by cases hq) fun l r ih=>?_
  rw[V6]
  intro q hq
  by_cases he:Cv (A1 k l).1 r=0
  · have e1:Cn (A1 k l).1 r=⟨(A1 k l).1.kind,(A1 k l).1.repos++[r],A6 (A1 k l).1 r r.pkgs.length⟩:=if_pos he
    have hq:q∈A6 (A1 k l).1 r r.pkgs.length:=by rw[e1] at hq;exact hq
    unfold A6 at hq
    rw[List.take_length] at hq
    rcases List.mem_append.1 hq with h|h
    · exact ih q h
    · obtain⟨p,hp,rfl⟩:=List.mem_map.1 h
      show Dp p=0
      have hf:J6 r.pkgs=0:=by
        unfold Cv at he
        split at he
        · cases he
        · split at he
          · cases he
          · split at he
            · cases he
            · exact he
      unfold J6 at hf
      split at hf
      · rename_i x hx
        have:=List.find?_some hx
        simp at this
        exact absurd hf this
      · rename_i hn
        have:=List.find?_eq_none.1 hn p hp
        simpa using this
  · rw[show Cn (A1 k l).1 r=(A1 k l).1 from if_neg he] at hq
    exact ih q hq
end Sv
end
section
open Go Go.RowKit
namespace Sv
def C8 (l:List Int):List Int:=l.mergeSort fun x y=>decide (x≤y)
theorem Q7v:FnV Tryz.prog 130 [.nils] (.tup []):=by
  intro F w vs hF hv
  obtain⟨v,rfl,h1⟩:=hv.single_inv
  simp only[VR] at h1;subst h1
  refine(Go.Proofs.Any.slices_Sort_int_none Tryz.lays189 none 0 w).mono ?_
  rintro e w' ⟨he,rfl⟩
  exact⟨_,he,Below.refl _ _,F,fun _ _ e=>e,hF,fun _ _ e => .inl e,by simp only[VR];exact⟨[],.nil,rfl⟩⟩
theorem X63:FnV Tryz.prog 123 [.nils] .nils:=by
  intro F w vs hF hv
  obtain⟨v,rfl,h1⟩:=hv.single_inv
  simp only[VR] at h1;subst h1
  refine(Tryz.slices_Compact_int_empty none 0 w).mono ?_
  rintro e w' ⟨he,rfl⟩
  exact⟨_,he,Below.refl _ _,F,fun _ _ e=>e,hF,fun _ _ e => .inl e,by simp only[VR]⟩
def Cf (l:List Int):List Int:=Lib.compact (C8 l)
theorem Xi (l:List Int):(C8 l).length=l.length:=by simp[C8]
theorem H8 (l:List Int):(Cf l).length≤l.length:=by have:=Vw (C8 l);rw[Xi] at this;exact this
def Wq (P:Program) (f:Nat) (es es':List AV) (e sz:Nat):Prop:=∀(B:Bas) (φ:Phi) (h:AH) (w:World) (b:Nat) (v:Value),Rel B φ h w→Bo b h=some (.grow es e sz)→φ.s b=some v →
  Calls P f #[v] w (Ret fun u w'=>u = .tuple #[]∧Rel B φ (Cp b (.grow es' e sz) (Ep b h)) w')
theorem X88 {P : Program} {B : Bas} {F : Cx} {n : Nat} {K : Exit → St → Prop} {x : St} {ops : Array Oper} {rest : List Oper} {f : FuncId} {ar : Array Operand} {ts : Array TypeId} {ty : TypeId} {ps : String} {dst : Option Tmp} {s' : Fr} {af : Array Edge} {g : Option (Nat × Bool)} {b e sz : Nat} {es es' : List AV}
    (hg:Dk ops x.s g=true) (he:As P f) (ha:Ef (evA x.s) ar.toList=some [.own b]) (hb:Bo b x.h=some (.grow es e sz)) (hf:Wq P f es es' e sz)
    (hp:Ch n dst (.tup []) x.s=some s') (next:SO P n ops rest B F K ⟨s',Cp b (.grow es' e sz) (Ep b x.h),x.nx⟩):SO P n ops (⟨dst,.call { callee:=.value (.func f),args:=ar,argTypes:=ts },ty,ps,af,g⟩::rest) B F K x:=by
  intro φ σ w hx
  have hv:=F4 hx.fr.ev ha
  obtain⟨v,hv0,hv1⟩:=hv.single_inv
  simp only[VR] at hv1
  have hc:=hf B φ x.h w b v hx.rel hb hv1.1
  refine Gm (Dj hx.fr hg) he (by rw[hv0];exact hc) ?_
  rintro u w' ⟨rfl,hr⟩
  exact next φ _ w' ⟨hx.fr.put hp (by simp only[VR];exact⟨[],.nil,rfl⟩),hr,hx.dom,hx.old,hx.new,hx.base⟩
theorem Q7w (l:List Int) (hl:l.length≤4611686018427):Wq Tryz.prog 130 (l.map (AV.int .i64)) ((C8 l).map (AV.int .i64)) 3 1:=by
  intro B φ h w b v hr hb hv1
  have hob:=hr.obj b _ hb
  obtain⟨v0,us,q1,q2,q3,q4⟩:=hob
  rw[hv1] at q1;cases q1
  have hu:=Ul q3
  subst hu
  rw[Q1,List.length_map] at q2
  have ht:Turn φ φ b:=⟨fun _=>rfl,fun _ _=>rfl,fun _ _ e=>e⟩
  rcases q2.2 with⟨rfl,hn⟩|⟨g,cap,cur,rfl,hg1,hg2,hg3,hg4,hg5,hg6⟩
  · have hl0:l=[]:=List.length_eq_zero_iff.1 hn
    subst hl0
    refine(Go.Proofs.Any.slices_Sort_int_none Tryz.lays189 none 0 w).mono ?_
    rintro e w' ⟨he,rfl⟩
    exact⟨_,he,rfl,Rel.grown hr hb hv1 ht hv1 rfl ⟨rfl,rfl,rfl,Nat.le_refl _,fun _ _ _=>rfl⟩ (.inl rfl) (fun k hk=>by cases hk) (by have:=hr.obj b _ hb;simpa [C8] using this)⟩
  · have hh:Go.Sort.Holds (Value.int .i64) w g 0 l.toArray:=holds_of_blockI hg2 (by simpa using hg6)
    refine(Tryz.slices_Sort_int g 0 cap l w hh (Ft hg2) (by omega)).mono ?_
    rintro e w' ⟨he,n,os,rfl⟩
    have hgr:=grownBy_sortedI (w:=w) (g:=g) (n:=n) (os:=os) (C8 l).toArray
    exact⟨_,he,rfl,Rel.grown (es':=(C8 l).map (AV.int .i64)) hr hb hv1 ht hv1 rfl hgr (.inl rfl) (fun k hk=>by cases hk;exact Nat.lt_of_lt_of_le (Ft hg2) hgr.size)
      ⟨_,(C8 l).map (Value.int .i64),hv1,by
        rw[Q1,List.length_map]
        have:=ownsRow_sortedI (n:=n) (os:=os) (base:=0) (ts:=C8 l) (ss:=l) (by simp[C8]) hg1 hg2 hg3 hg4 (by simpa using hg5)
        rw[show(C8 l).length=l.length by simp[C8]]
        exact this,Sk _,Q4s _⟩⟩
end Sv
end
section
open Go Go.RowKit
namespace Sv
attribute [local irreducible] SW SO Bs
set_option maxHeartbeats 400000
set_option maxRecDepth 100000
theorem X53:As Tryz.prog 129:=Az Tryz.func129 (by kernel_rfl) rfl
theorem Q30:As Tryz.prog 130:=Az Tryz.func130 (by kernel_rfl) rfl
theorem Qx (l : List Int) (hl : l.length ≤ 4611686018) :
  FnV Tryz.prog 66 [(Ah l)] (Ah (Cf l)):=by
 refine A8 [.tmp 2] Tryz.func66 rfl Tryz.ntmps66 rfl rfl (fun B F hF=>?_)
 refine Ab [] [0] ?_
 refine Ac ?_
 refine An ?_
 refine B2 1 0 [] [4] [] hk0 v0 c0 ?_
 refine Km [.tmp 2] (al:=[(Ah l)]) (s0:=[(4,(Ah l))]) (by kernel_rfl) (by exact X53) (by kernel_rfl) Tryz.func129 rfl Tryz.ntmps129 rfl (by kernel_rfl) (by kernel_rfl) (fun F1 hF1 hle1=>?_)
 refine Ab [] [0] ?_
 refine Ac ?_
 refine Ac ?_
 refine An ?_
 refine B2 1 0 [] [0,3] [] hk0 v0 c0 ?_
 refine Sf (G:=Jy (Ah l)) (sz:=1) (m:=l.length) (e:=3) (by kernel_rfl) (by kernel_rfl) (by kernel_rfl) (by kernel_rfl) (fun nq1_1=>⟨[(0,(Ah l)),(3,(Ah l)),(4,(.bool nq1_1))],by kernel_rfl,fun hnq1_1=>?_⟩)
 refine Cd ?_
 refine Bd (q:=nq1_1) (by kernel_rfl) (fun c1=>?_) (fun c1=>?_)
 ·try simp only[Am] at c1
  refine Ab [] [2] ?_
  refine Ag ?_
  refine Hh (.inl rfl) (al:=[.nils]) (s':=[(4,(Ah l)),(5,.nils)]) (by kernel_rfl) (by kernel_rfl) ?_
  refine Au 2 [] [3] [] hk0 v0 c0 ?_
  refine Af [] [3] [] (hk 1 Q30 Q7v<|hk0) v0 c0 ?_
  refine Af [] [2] [] (hk 1 Vi X63<|hk0) v0 c0 ?_
  refine Ag ?_
  refine RK wR [.nils] ?_
  simp only[Ak]
  have h0:l=[]:=List.length_eq_zero_iff.1 (by have:=hnq1_1 (by simp_all);simp_all)
  subst h0
  rw[show Cf []=[] from List.length_eq_zero_iff.1 (Nat.le_zero.1 (H8 []))]
  exact(Imp.nil (f:=AV.int .i64)).same
 ·try simp only[Am] at c1
  refine Ai ?_
  refine Af [] [2] [] hk0 v0 (cc 2 (p:=((([]:List AV).length+l.length)*8≤140737488355328)) (by(simp;omega))<|c0) ?_
  refine Ag ?_
  refine Hh (.inl rfl) (al:=[(.own 1)]) (s':=[(4,(Ah l)),(5,(.own 1))]) (by kernel_rfl) (by kernel_rfl) ?_
  refine Au 2 [] [3] [] hk0 v0 c0 ?_
  refine Ac ?_
  refine An ?_
  refine B2 1 0 [] [3,6] [] hk0 v0 c0 ?_
  refine X88 (s':=[(3,(.own 1)),(6,(.own 1)),(7,(.tup []))]) (b:=1) (e:=3) (sz:=1) (es:=([]:List AV)++((List.range l.length).map (fun kx=>((.int .i64 (nth l kx)):AV)))) (es':=((C8 l).map (AV.int .i64))) (by kernel_rfl) (by exact Q30) (by kernel_rfl) (by kernel_rfl) ((show Wq _ _ (([]:List AV)++((List.range l.length).map (fun kx=>((.int .i64 (nth l kx)):AV)))) _ _ _ from (show l.map (AV.int .i64)=(([]:List AV)++((List.range l.length).map (fun kx=>((.int .i64 (nth l kx)):AV)))) from by simp[Ky])▸Q7w l (by omega))) (by kernel_rfl) ?_
  refine Cd ?_
  refine Ac ?_
  refine An ?_
  refine B2 1 0 [] [8] [] hk0 v0 c0 ?_
  refine Nb [1] (al:=[(.own 1)]) (al':=[(.own 0)]) (r:=(.own 0)) (r':=(.own 1)) (s':=[(8,Br),(9,(.own 1))]) (H:=[(0,(.grow ((C8 l).map (AV.int .i64)) 3 1))]) (H':=[(0,(.grow ((Lib.compact (C8 l)).map (AV.int .i64)) 3 1))]) (h2:=[(1,(.grow ((Lib.compact (C8 l)).map (AV.int .i64)) 3 1))]) (by kernel_rfl) (by exact Vi) (by kernel_rfl) (by kernel_rfl) (by kernel_rfl) (by kernel_rfl) (by kernel_rfl) (Q4o (C8 l) (by rw[Xi];omega)) (by kernel_rfl) (by kernel_rfl) (by kernel_rfl) ?_
  refine Au 2 [] [2] [] hk0 v0 c0 ?_
  refine Ag ?_
  refine RK wR [(.row 1 ((Lib.compact (C8 l)).map (AV.int .i64)).length (fun ix=>((Lib.compact (C8 l)).map (AV.int .i64)).getD ix Br))] ?_
  simp only[Ak]
  exact Same.grown (f:=AV.int .i64) (l:=Cf l) rfl
end Sv
end
section
open Go Go.RowKit
namespace Sv
theorem Td:∀{a b:List Int},C4 a→C4 b→(∀x,x∈a↔x∈b)→a=b
  |[],[],_,_,_=>rfl
  |[],y::b,_,_,h=>by have:=(h y).2 (by simp);cases this
  |x::a,[],_,_,h=>by have:=(h x).1 (by simp);cases this
  |x::a,y::b,ha,hb,h=>by
    have e:x=y:=by
      rcases List.mem_cons.1 ((h x).1 (by simp)) with e|e
      · exact e
      · rcases List.mem_cons.1 ((h y).2 (by simp)) with e'|e'
        · exact e'.symm
        · have h1:=hb.1 x e
          have h2:=ha.1 y e'
          omega
    subst e
    rw[Td ha.2 hb.2 fun z=>?_]
    constructor
    · intro hz
      rcases List.mem_cons.1 ((h z).1 (by simp[hz])) with e|e
      · subst e;have:=ha.1 z hz;omega
      · exact e
    · intro hz
      rcases List.mem_cons.1 ((h z).2 (by simp[hz])) with e|e
      · subst e;have:=hb.1 z hz;omega
      · exact e
theorem X2 {x:Int}:∀{l:List Int},C4 l→(∀y∈l,y < x)→C4 (l++[x])
  |[],_,_=>⟨by simp,trivial⟩
  | z :: l, h, k => ⟨fun y hy => by
      rcases List.mem_append.1 hy with hy|hy
      · exact h.1 y hy
      · rw[List.mem_singleton] at hy;subst hy;exact k z (by simp),X2 h.2 fun y hy=>k y (by simp[hy])⟩
theorem Q4n (d:Array Int) (h:∀i,i+1 < d.size→d[i]! ≤ d[i+1]!):∀m,m≤d.size→C4 (Lib.compactUpTo d m)∧(∀x,x∈Lib.compactUpTo d m↔∃i,i < m∧x=d[i]!)∧∀x∈Lib.compactUpTo d m,x≤d[m-1]! :=by
  intro m
  induction m with
  |zero=>intro _;exact⟨trivial,fun x=>by simp[Lib.compactUpTo],fun x hx=>by simp[Lib.compactUpTo] at hx⟩
  |succ m ih =>
    intro hm
    obtain⟨i1,i2,i3⟩:=ih (by omega)
    have mono:∀x∈Lib.compactUpTo d m,x≤d[m]! := fun x hx=>by
      have h1:=i3 x hx
      by_cases h0:m=0
      · subst h0;simp[Lib.compactUpTo] at hx
      · have:=h (m-1) (by omega)
        rw[show m-1+1=m by omega] at this;omega
    rw[Lib.compactUpTo_succ]
    by_cases hk:Lib.keeps d m=true
    · rw[if_pos hk]
      refine⟨X2 i1 fun y hy=>?_,fun x=>?_,fun x hx=>?_⟩
      · have h1:=mono y hy
        have h2:=i3 y hy
        by_cases h0:m=0
        · subst h0;simp[Lib.compactUpTo] at hy
        · have h3:=h (m-1) (by omega)
          rw[show m-1+1=m by omega] at h3
          have h4:d[m]! ≠ d[m-1]! :=by
            simp only[Lib.keeps,decide_eq_true_eq] at hk
            rcases hk with hk|hk
            · exact absurd hk h0
            · exact hk
          omega
      · rw[List.mem_append,i2,List.mem_singleton]
        constructor
        · rintro (⟨i,hi,rfl⟩|rfl)
          · exact⟨i,by omega,rfl⟩
          · exact⟨m,by omega,rfl⟩
        · rintro⟨i,hi,rfl⟩
          by_cases e:i=m
          · subst e;exact .inr rfl
          · exact .inl ⟨i,by omega,rfl⟩
      · rw[Nat.add_sub_cancel]
        rcases List.mem_append.1 hx with hx|hx
        · exact mono x hx
        · rw[List.mem_singleton] at hx;subst hx;exact Int.le_refl _
    · rw[if_neg hk,List.append_nil]
      have hk':¬m=0∧d[m]! = d[m-1]! :=by
        simp only[Lib.keeps,decide_eq_true_eq,not_or,ne_eq,Decidable.not_not] at hk
        exact hk
      refine⟨i1,fun x=>?_,fun x hx=>?_⟩
      · rw[i2]
        constructor
        · rintro⟨i,hi,rfl⟩
          exact⟨i,by omega,rfl⟩
        · rintro⟨i,hi,rfl⟩
          by_cases e:i=m
          · subst e;exact⟨i-1,by omega,hk'.2⟩
          · exact⟨i,by omega,rfl⟩
      · rw[Nat.add_sub_cancel];exact mono x hx
theorem Xh (l:List Int) (i:Nat) (h:i+1 < (C8 l).toArray.size):(C8 l).toArray[i]! ≤ (C8 l).toArray[i+1]! :=by
  have p:(C8 l).Pairwise fun x y=>decide (x≤y)=true:=List.pairwise_mergeSort (fun a b c h1 h2=>by simp only[decide_eq_true_eq] at *;omega) (fun a b=>by simp only[Bool.or_eq_true,decide_eq_true_eq];omega) l
  have h':i+1 < (C8 l).length:=by simpa using h
  have:=List.pairwise_iff_getElem.1 p i (i+1) (by omega) h' (by omega)
  simpa [getElem!_pos,h',show i < (C8 l).length by omega] using this
theorem I3 (l:List Int):C4 (Cf l):=(Q4n (C8 l).toArray (Xh l) (C8 l).length (by simp)).1
theorem setZ_mem {l:List Int} {x:Int}:x∈Cf l↔x∈l:=by
  have h:=(Q4n (C8 l).toArray (Xh l) (C8 l).length (by simp)).2.1 x
  have e:x∈Cf l↔x∈Lib.compactUpTo (C8 l).toArray (C8 l).length:=Iff.rfl
  rw[e,h]
  have m:x∈C8 l↔x∈l:=by unfold C8;exact List.mem_mergeSort
  rw[←m]
  constructor
  · rintro⟨i,hi,rfl⟩
    simp[getElem!_pos,hi]
  · intro hx
    obtain⟨i,hi,rfl⟩:=List.getElem_of_mem hx
    exact⟨i,hi,by simp[getElem!_pos,hi]⟩
theorem L4 {l k:List Int} (hk:C4 k) (h:∀x,x∈k↔x∈l):k=Cf l:=Td hk (I3 l) fun x=>by rw[h,setZ_mem]
theorem Nr {l:List Int} (h:C4 l):Cf l=l:=(L4 h fun _=>Iff.rfl).symm
theorem Nw {n:Int} {l:List Int}:C5 n (Cf l)=Cf (l++[n]):=L4 (Yu (I3 l)) fun x=>by rw[put1_mem,setZ_mem,List.mem_append,List.mem_singleton,or_comm]
theorem Xo:Cf []=[]:=Nr trivial
def Cc (x y:List Int):Bool:=decide (y=[])||(!decide (x=[])&&decide (nth x 0≤nth y 0))
def En (p:Bool→Bool→Bool):Nat→List Int→List Int→List Int
  |0,_,_=>[]
  |n+1,x,y=>if x=[]∧y=[] then [] else
    (if p (Cc x y) (Cc y x) then [if Cc y x=true then nth y 0 else nth x 0] else [])++En p n (if Cc x y=true then x.drop 1 else x) (if Cc y x=true then y.drop 1 else y)
theorem X17 {q:Bool} {h:Int} {r:List Int} (hr:C4 r) (hl:∀z∈r,h < z):C4 ((if q=true then [h] else [])++r):=by
  cases q
  · exact hr
  · exact⟨hl,hr⟩
theorem X19 {p : Bool → Bool → Bool} {u v : Bool} {h : Int} {x y x1 y1 r : List Int} (hx : ∀ z, z ∈ x ↔ (u = true ∧ z = h) ∨ z ∈ x1) (hy : ∀ z, z ∈ y ↔ (v = true ∧ z = h) ∨ z ∈ y1) (h1 : ∀ z ∈ x1, h < z) (h2 : ∀ z ∈ y1, h < z) (huv : u = true ∨ v = true)
    (hr:∀z,z∈r↔(z∈x1∨z∈y1)∧p (decide (z∈x1)) (decide (z∈y1))=true) (z:Int):z∈(if p u v=true then [h] else [])++r↔(z∈x∨z∈y)∧p (decide (z∈x)) (decide (z∈y))=true:=by
  rw[List.mem_append,hr]
  by_cases e:z=h
  · subst e
    have n1:¬z∈x1:=fun q=>by have:=h1 z q;omega
    have n2:¬z∈y1:=fun q=>by have:=h2 z q;omega
    have e1:decide (z∈x)=u:=by have:=hx z;cases u<;>simp_all
    have e2:decide (z∈y)=v:=by have:=hy z;cases v<;>simp_all
    rw[e1,e2]
    have hm:z∈x∨z∈y:=by
      rcases huv with q|q
      · exact .inl ((hx z).2 (.inl ⟨q,rfl⟩))
      · exact .inr ((hy z).2 (.inl ⟨q,rfl⟩))
    by_cases q:p u v=true
    · simp[q,hm]
    · simp[q,n1,n2]
  · have e1:z∈x↔z∈x1:=by rw[hx];simp[e]
    have e2:z∈y↔z∈y1:=by rw[hy];simp[e]
    have n:¬z∈(if p u v=true then [h] else []):=by split<;>simp[e]
    simp only[e1,e2,n,false_or]
theorem Q0t {p:Bool→Bool→Bool}:∀(n:Nat) (x y:List Int),x.length+y.length < n→C4 x→C4 y→C4 (En p n x y)∧∀z,z∈En p n x y↔(z∈x∨z∈y)∧p (decide (z∈x)) (decide (z∈y))=true:=by
  intro n
  induction n with
  |zero=>intro x y h;omega
  |succ n ih =>
    intro x y h hx hy
    have go : ∀ (u v : Bool) (a : Int) (x1 y1 : List Int), x1.length + y1.length < n → C4 x1 → C4 y1 → (∀ z, z ∈ x ↔ (u = true ∧ z = a) ∨ z ∈ x1) → (∀ z, z ∈ y ↔ (v = true ∧ z = a) ∨ z ∈ y1) → (∀ z ∈ x1, a < z) → (∀ z ∈ y1, a < z) → (u = true ∨ v = true) →
        En p (n+1) x y=(if p u v=true then [a] else [])++En p n x1 y1→C4 (En p (n+1) x y)∧∀z,z∈En p (n+1) x y↔(z∈x∨z∈y)∧p (decide (z∈x)) (decide (z∈y))=true:=by
      intro u v a x1 y1 hl r1 r2 q1 q2 q3 q4 q5 e
      obtain⟨i1,i2⟩:=ih x1 y1 hl r1 r2
      rw[e]
      refine⟨X17 i1 fun z hz=>?_,X19 q1 q2 q3 q4 q5 i2⟩
      rcases ((i2 z).1 hz).1 with k|k
      · exact q3 z k
      · exact q4 z k
    cases x with
    |nil =>
      cases y with
      |nil=>exact⟨trivial,fun z=>by simp[En]⟩
      |cons b y=>exact go false true b [] y (by simp at h ⊢;omega) trivial hy.2 (by simp) (by simp) (by simp) hy.1 (.inr rfl) (by simp[En,Cc,nth])
    |cons a x =>
      cases y with
      |nil=>exact go true false a x [] (by simp at h ⊢;omega) hx.2 trivial (by simp) (by simp) hx.1 (by simp) (.inl rfl) (by simp[En,Cc,nth])
      |cons b y =>
        simp only[List.length_cons] at h
        rcases Int.lt_trichotomy a b with q|q|q
        · exact go true false a x (b :: y) (by simp; omega) hx.2 hy (by simp) (by simp) hx.1 (fun z hz => by
            rcases List.mem_cons.1 hz with rfl|hz
            · exact q
            · have:=hy.1 z hz;omega) (.inl rfl) (by simp[En,Cc,nth,show a≤b by omega,show ¬b≤a by omega])
        · subst q
          exact go true true a x y (by omega) hx.2 hy.2 (by simp) (by simp) hx.1 hy.1 (.inl rfl) (by simp[En,Cc,nth])
        · exact go false true b (a :: x) y (by simp; omega) hx hy.2 (by simp) (by simp) (fun z hz => by
            rcases List.mem_cons.1 hz with rfl|hz
            · exact q
            · have:=hx.1 z hz;omega) hy.1 (.inr rfl) (by simp[En,Cc,nth,show ¬a≤b by omega,show b≤a by omega])
def K5 (p:Bool→Bool→Bool) (a b:List Int):List Int:=En p ((Cf a).length+(Cf b).length+1) (Cf a) (Cf b)
theorem Q0v {p:Bool→Bool→Bool} {a b:List Int} {z:Int}:z∈K5 p a b↔(z∈a∨z∈b)∧p (decide (z∈a)) (decide (z∈b))=true:=by
  have:=(Q0t (p:=p) _ (Cf a) (Cf b) (Nat.lt_succ_self _) (I3 a) (I3 b)).2 z
  simp only[setZ_mem] at this
  exact this
theorem Q0u {p:Bool→Bool→Bool} {a b:List Int}:C4 (K5 p a b):=(Q0t _ (Cf a) (Cf b) (Nat.lt_succ_self _) (I3 a) (I3 b)).1
def Ad (a b:List Int):List Int:=Cf (a.filter fun z => !decide (z∈b))
def A3 (a b:List Int):List Int:=Cf (a++b)
theorem X1y (a b:List Int):K5 (fun _ v => !v) a b=Ad a b:=L4 Q0u fun z=>by rw[Q0v,List.mem_filter];simp only[Bool.not_eq_true',decide_eq_false_iff_not];exact⟨fun h=>⟨h.1.resolve_right h.2,h.2⟩,fun h=>⟨.inl h.1,h.2⟩⟩
theorem Q67 (a b:List Int):K5 (fun _ _=>true) a b=A3 a b:=L4 Q0u fun z=>by rw[Q0v,List.mem_append];simp
theorem minusZ_mem {a b:List Int} {z:Int}:z∈Ad a b↔z∈a∧¬z∈b:=by unfold Ad;rw[setZ_mem,List.mem_filter];simp
theorem unionZ_mem {a b:List Int} {z:Int}:z∈A3 a b↔z∈a∨z∈b:=by unfold A3;rw[setZ_mem,List.mem_append]
theorem Ij (a b:List Int):C4 (Ad a b):=I3 _
theorem Nh (a b:List Int):C4 (A3 a b):=I3 _
end Sv
end
section
open Go Go.RowKit
namespace Sv
attribute [local irreducible] SW SO Bs
set_option maxHeartbeats 400000
set_option maxRecDepth 100000
theorem Vg:As Tryz.prog 135:=Az Tryz.func135 (by kernel_rfl) rfl
theorem X4m:As Tryz.prog 75:=Az Tryz.func75 (by kernel_rfl) rfl
theorem Oo:As Tryz.prog 76:=Az Tryz.func76 (by kernel_rfl) rfl
theorem X3c {l:List Int} {n:Int} {i:Nat} (h:i < l.length) (e:nth l i=n):decide (n∈l)=true:=decide_eq_true (by rw[←e,Dy h];exact List.getElem_mem h)
theorem X3d {l:List Int} {n:Int} (h:∀j,j < l.length→¬nth l j=n):decide (n∈l)=false:=decide_eq_false fun k=>by
 obtain⟨j,hj,e⟩:=List.getElem_of_mem k
 exact h j hj (by rw[Dy hj,e])
def E0 (l:List Int):List Int:=l.foldl (fun s x=>C5 x s) []
theorem Kt (l:List Int):E0 l=Cf l:=by
 have:∀(l k:List Int),l.foldl (fun s x=>C5 x s) (Cf k)=Cf (k++l):=by
  intro l
  induction l with
  |nil=>intro k;rw[List.append_nil];rfl
  |cons x l ih=>intro k;rw[List.foldl_cons,Nw,ih,List.append_assoc];rfl
 have h:=this l []
 rw[Xo] at h
 exact h
theorem Xp (l:List Int):(E0 l).length≤l.length:=by rw[Kt];exact H8 l
theorem Q8a {l:List Int} {i:Nat} (h:i < l.length):C5 (nth l i) (E0 (l.take i))=E0 (l.take (i+1)):=by rw[Kt,Kt,Nw,Hp h]
theorem Q78 {f:Int→Bool} {l:List Int} {i:Nat} (h:i < l.length) (hf:f (nth l i)=true):C5 (nth l i) (E0 ((l.take i).filter f))=E0 ((l.take (i+1)).filter f):=by
 rw[Kt,Kt,Nw,Hp h,List.filter_append];simp[hf]
theorem Q79 {f:Int→Bool} {l:List Int} {i:Nat} (h:i < l.length) (hf:f (nth l i)=false):E0 ((l.take i).filter f)=E0 ((l.take (i+1)).filter f):=by
 rw[Hp h,List.filter_append];simp[hf]
theorem Q8b (f:Int→Bool) (l:List Int) (i:Nat):(E0 ((l.take i).filter f)).length≤l.length:=by
 have h1:=Xp ((l.take i).filter f)
 have h2:=List.length_filter_le f (l.take i)
 rw[List.length_take] at h2;omega
theorem Tp (l : List Int) (n : Int) (hl : l.length ≤ 4611686018427) :
  FnV Tryz.prog 135 [(Ah l),(.int .i64 n)] (.bool (decide (n∈l))):=by
 refine A8 [.tmp 4] Tryz.func135 rfl Tryz.ntmps135 rfl rfl (fun B F hF=>?_)
 refine Ab [] [0,1] ?_
 refine Ac ?_
 refine Ab [] [0,1,5] ?_
 refine Ay ?_
 refine Bz (fun g y=>∃(i:Nat),i≤l.length∧(∀j,j < i→¬nth l j=n)∧y=⟨[(0,(Ah l)),(1,(.int .i64 n)),(5,(.int .i64 ((i:Int))))],[],0⟩∧g=l.length-i) [0,1,5] 0 _ (by omega) ⟨0,(by omega),(by exact fun j hj=>by omega),(by kernel_rfl),rfl⟩ ?_
 rintro g1 y1 ⟨i,f1_1,f1_2,rfl,rfl⟩
 refine Ac ?_
 refine Ab [] [0,1,5,9] ?_
 refine A5 (p:=(i:Int) < (l.length:Int)) (by kernel_rfl) (fun c1=>?_) (fun c1=>?_)
 ·refine Ai ?_
  refine Ac ?_
  refine Ay ?_
  refine Af [] [0,1,5,17] [] hk0 v0 (cc 2 (p:=(0≤(i:Int)∧i < l.length)) (by omega)<|c0) ?_
  refine A5 (p:=(nth l i)=n) (by kernel_rfl) (fun c2=>?_) (fun c2=>?_)
  ·refine Ab [] [4] ?_
   refine Ag ?_
   refine RK wR [(.bool true)] ?_
   exact Same.of_eq (by rw[X3c (i:=i) (by omega) (by assumption)];rfl)
  ·refine Ai ?_
   refine An ?_
   refine Au 0 [] [0,1,5] [] hk0 v0 (cc 1 (p:=(-9223372036854775808≤(i:Int)+1∧(i:Int)+1≤9223372036854775807)) (by omega)<|c0) ?_
   refine⟨by kernel_rfl,_,?_,i+1,?_,?_,(by kernel_rfl),rfl⟩
   ·omega
   ·omega
   ·intro j hj
    by_cases h:j=i
    ·subst h;simp_all
    ·exact f1_2 j (by omega)
 ·refine Bp ?_
  refine Ab [] [4] ?_
  refine Ag ?_
  refine RK wR [(.bool false)] ?_
  exact Same.of_eq (by rw[X3d (fun j hj=>f1_2 j (by omega))];rfl)
theorem Q9g (l : List Int) (hl : l.length ≤ 4611686018) :
  FnV Tryz.prog 75 [(Ah l)] (Ah (Cf l)):=by
 refine A8 [.tmp 2] Tryz.func75 rfl Tryz.ntmps75 rfl rfl (fun B F hF=>?_)
 refine Ab [] [0] ?_
 refine Ab [] [0,3] ?_
 refine Ac ?_
 refine Ac ?_
 refine An ?_
 refine Fd 3 (Ah []) (by kernel_rfl) Imp.nil ?_
 refine Ei [] [0,3,4] ?_
 refine Ay ?_
 refine Bz (fun g y=>∃(i:Nat),i≤l.length∧y=⟨[(0,(Ah l)),(3,(Ah (E0 (l.take i)))),(4,(.int .i64 ((i:Int))))],[],0⟩∧g=l.length-i) [0,3,4] 0 _ (by omega) ⟨0,(by omega),(by kernel_rfl),rfl⟩ ?_
 rintro g1 y1 ⟨i,f1_1,rfl,rfl⟩
 refine Ac ?_
 refine Ab [] [0,3,4,8] ?_
 refine A5 (p:=(i:Int) < (l.length:Int)) (by kernel_rfl) (fun c1=>?_) (fun c1=>?_)
 ·refine Ai ?_
  refine Ac ?_
  refine Ay ?_
  refine An ?_
  refine Au 0 [] [0,3,4] [] (hk 5 Re (P7 (E0 (l.take i)) (nth l i) (by have:=Xp (l.take i);rw[List.length_take] at this;omega))<|hk0) v0 (cc 3 (p:=(0≤(i:Int)∧i < l.length)) (by omega)<|c0) ?_
  refine An ?_
  refine Au 0 [] [0,3,4] [] hk0 v0 (cc 1 (p:=(-9223372036854775808≤(i:Int)+1∧(i:Int)+1≤9223372036854775807)) (by omega)<|c0) ?_
  refine⟨by kernel_rfl,_,?_,i+1,?_,(Eq.trans (b:=(⟨[(0,(Ah l)),(3,(Ah (C5 (nth l i) (E0 (l.take i))))),(4,(.int .i64 ((i:Int)+1)))],[],0⟩:St)) (by kernel_rfl) (by rw[Q8a (by omega)]<;>kernel_rfl)),rfl⟩
  all_goals omega
 ·refine Bp ?_
  refine Ab [] [2] ?_
  refine Ag ?_
  refine RK wR [(Ah (E0 (l.take i)))] ?_
  exact Same.of_eq (by simp only[Ak];rw[show i=l.length from by omega,List.take_length,Kt])
theorem Nv (a b : List Int) (ha : a.length ≤ 4611686018) (hb : b.length ≤ 4611686018) :
  FnV Tryz.prog 76 [(Ah a),(Ah b)] (Ah (Ad a b)):=by
 refine A8 [.tmp 4] Tryz.func76 rfl Tryz.ntmps76 rfl rfl (fun B F hF=>?_)
 refine Ab [] [0,1] ?_
 refine Ab [] [0,1,5] ?_
 refine Ac ?_
 refine Ac ?_
 refine An ?_
 refine Fd 5 (Ah []) (by kernel_rfl) Imp.nil ?_
 refine Ei [] [0,1,5,6] ?_
 refine Ay ?_
 refine Bz (fun g y=>∃(i:Nat),i≤a.length∧y=⟨[(0,(Ah a)),(1,(Ah b)),(5,(Ah (E0 ((a.take i).filter fun z => !decide (z∈b))))),(6,(.int .i64 ((i:Int))))],[],0⟩∧g=a.length-i) [0,1,5,6] 0 _ (by omega) ⟨0,(by omega),(by kernel_rfl),rfl⟩ ?_
 rintro g1 y1 ⟨i,f1_1,rfl,rfl⟩
 refine Ac ?_
 refine Ab [] [0,1,5,6,11] ?_
 refine A5 (p:=(i:Int) < (a.length:Int)) (by kernel_rfl) (fun c1=>?_) (fun c1=>?_)
 ·refine Ai ?_
  refine Ac ?_
  refine Ay ?_
  refine Af [] [0,1,5,6,7] [] (hk 5 Vg (Tp b (nth a i) (by omega))<|hk0) v0 (cc 3 (p:=(0≤(i:Int)∧i < a.length)) (by omega)<|c0) ?_
  refine Ab [] [0,1,5,6,21] ?_
  refine Bd (q:=!(decide (nth a i∈b))) (by kernel_rfl) (fun c2=>?_) (fun c2=>?_)
  ·try simp only[Am] at c2
   refine An ?_
   refine Au 0 [] [0,1,5,6] [] (hk 5 Re (P7 (E0 ((a.take i).filter fun z => !decide (z∈b))) (nth a i) (by have:=Q8b (fun z => !decide (z∈b)) a i;omega))<|hk0) v0 (cc 3 (p:=(0≤(i:Int)∧i < a.length)) (by omega)<|c0) ?_
   refine An ?_
   refine Au 0 [] [0,1,5,6] [] hk0 v0 (cc 1 (p:=(-9223372036854775808≤(i:Int)+1∧(i:Int)+1≤9223372036854775807)) (by omega)<|c0) ?_
   refine⟨by kernel_rfl,_,?_,i+1,?_,(Eq.trans (b:=(⟨[(0,(Ah a)),(1,(Ah b)),(5,(Ah (C5 (nth a i) (E0 ((a.take i).filter fun z => !decide (z∈b)))))),(6,(.int .i64 ((i:Int)+1)))],[],0⟩:St)) (by kernel_rfl) (by rw[Q78 (f:=fun z => !decide (z∈b)) (by omega) (by simp_all)]<;>kernel_rfl)),rfl⟩
   all_goals omega
  ·try simp only[Am] at c2
   refine Ai ?_
   refine An ?_
   refine Au 0 [] [0,1,5,6] [] hk0 v0 (cc 1 (p:=(-9223372036854775808≤(i:Int)+1∧(i:Int)+1≤9223372036854775807)) (by omega)<|c0) ?_
   refine⟨by kernel_rfl,_,?_,i+1,?_,(Eq.trans (b:=(⟨[(0,(Ah a)),(1,(Ah b)),(5,(Ah (E0 ((a.take i).filter fun z => !decide (z∈b))))),(6,(.int .i64 ((i:Int)+1)))],[],0⟩:St)) (by kernel_rfl) (by rw[←Q79 (f:=fun z => !decide (z∈b)) (by omega) (by simp_all)]<;>kernel_rfl)),rfl⟩
   all_goals omega
 ·refine Bp ?_
  refine Ab [] [4] ?_
  refine Ag ?_
  refine RK wR [(Ah (E0 ((a.take i).filter fun z => !decide (z∈b))))] ?_
  exact Same.of_eq (by simp only[Ak];rw[show i=a.length from by omega,List.take_length,Kt];rfl)
end Sv
end
section
open Go Go.RowKit
namespace Sv
attribute [local irreducible] SW SO Bs
set_option maxHeartbeats 1000000
set_option maxRecDepth 100000
theorem Q3z:As Tryz.prog 131:=Az Tryz.func131 (by kernel_rfl) rfl
theorem Rb:As Tryz.prog 66:=Az Tryz.func66 (by kernel_rfl) rfl
theorem Oq:As Tryz.prog 73:=Az Tryz.func73 (by kernel_rfl) rfl
theorem U8:As Tryz.prog 69:=Az Tryz.func69 (by kernel_rfl) rfl
theorem X51:As Tryz.prog 134:=Az Tryz.func134 (by kernel_rfl) rfl
theorem X52:As Tryz.prog 132:=Az Tryz.func132 (by kernel_rfl) rfl
theorem Q2e (x y:List Int):(decide ((y.length:Int)=0)||(decide (0 < (x.length:Int))&&decide (nth x 0≤nth y 0)))=Cc x y:=by
 unfold Cc
 cases x<;>cases y<;>simp
 all_goals omega
theorem Uu {x y:List Int} (h:¬(x=[]∧y=[])) (k:Cc x y=true):1≤x.length:=by
 cases x<;>cases y<;>simp_all [Cc]
theorem X3x {x y:List Int} (h:¬(x=[]∧y=[])) (k:Cc x y=false):Cc y x=true:=by
 cases x<;>cases y<;>simp_all [Cc];omega
theorem Mh {p : Bool → Bool → Bool} {g : Nat} {x y : List Int} {u v : Bool} (hg : 1 ≤ g) (h : ¬(x = [] ∧ y = [])) (hu : Cc x y = u) (hv : Cc y x = v) :
  En p g x y=(if p u v=true then [if v=true then nth y 0 else nth x 0] else [])++En p (g-1) (if u=true then x.drop 1 else x) (if v=true then y.drop 1 else y):=by
 obtain⟨n,rfl⟩:∃n,g=n+1:=⟨g-1,by omega⟩
 rw[En,if_neg h,hu,hv];rfl
theorem X18 (p:Bool→Bool→Bool) (g:Nat):En p g [] []=[]:=by cases g<;>rfl
theorem Vj {x:List Int} {n:Nat} (h:1≤x.length∧n=x.length-1):Imp (.row 1 n (fun kx => .int .i64 (nth x (1+kx)))) (Ah (x.drop 1)):=by
 obtain⟨h1,rfl⟩:=h
 have e:x.length-1=(x.drop 1).length:=by simp
 rw[e]
 exact Imp.row fun i hi=>Imp.of_eq (by simp[nth,List.getElem?_drop,Nat.add_comm])
theorem X1z (a b : Bool) :
  FnV Tryz.prog 134 [(.bool a),(.bool b)] (.bool (!b)):=by
 refine A8 [.tmp 4] Tryz.func134 rfl Tryz.ntmps134 rfl rfl (fun B F hF=>?_)
 refine Ab [] [1] ?_
 refine Ab [] [4] ?_
 refine Ag ?_
 refine RK wR [(.bool (!b))] ?_
 exact Same.of_eq (by first|rfl|(simp only[Ak];simp_all))
theorem Q68 (a b : Bool) :
  FnV Tryz.prog 132 [(.bool a),(.bool b)] (.bool true):=by
 refine A8 [.tmp 4] Tryz.func132 rfl Tryz.ntmps132 rfl rfl (fun B F hF=>?_)
 refine Ab [] [] ?_
 refine Ab [] [4] ?_
 refine Ag ?_
 refine RK wR [(.bool true)] ?_
 exact Same.of_eq (by first|rfl|(simp only[Ak];simp_all))
theorem Q0s (a b : List Int) (q : AV) (p : Bool → Bool → Bool) (ha : a.length ≤ 4194304) (hb : b.length ≤ 4194304) (hq : ∀ u v, FunV Tryz.prog q [.bool u, .bool v] (.bool (p u v))) :
  FnV Tryz.prog 131 [(Ah a),(Ah b),(.clo q)] (Ah (K5 p a b)):=by
 have h1:=H8 a
 have h2:=H8 b
 refine A8 [.tmp 6] Tryz.func131 rfl Tryz.ntmps131 rfl rfl (fun B F hF=>?_)
 refine Ab [] [0,1,2] ?_
 refine Af [] [0,1,2] [] (hk 1 Rb (Qx a (by omega))<|hk 3 Rb (Qx b (by omega))<|hk0) v0 c0 ?_
 refine Ab [] [0,1,2,7] ?_
 refine Ac ?_
 refine Ay ?_
 refine Js 3 1 7 (y:=⟨[(0,(Ah (Cf a))),(1,(Ah (Cf b))),(2,(.clo q)),(7,(.own 0))],[(0,(.grow [] 3 1))],1⟩) (by kernel_rfl) (by kernel_rfl) ?_
 refine Bz (fun g y=>∃(fu:Nat) (x k zs:List Int),x.length≤(Cf a).length∧k.length≤(Cf b).length∧x.length+k.length < fu∧zs.length+(x.length+k.length)≤(Cf a).length+(Cf b).length∧En p ((Cf a).length+(Cf b).length+1) (Cf a) (Cf b)=zs++En p fu x k∧y=⟨[(0,(Ah x)),(1,(Ah k)),(2,(.clo q)),(7,(.own 0))],[(0,(.grow (zs.map (AV.int .i64)) 3 1))],1⟩∧g=fu) [0,1,2,7] 1 _ (by omega) ⟨(Cf a).length+(Cf b).length+1,(Cf a),(Cf b),[],(by omega),(by omega),(by omega),(by simp),(by rfl),(by kernel_rfl),rfl⟩ ?_
 rintro g1 y1 ⟨fu,x,k,zs,f1_1,f1_2,f1_3,f1_4,f1_5,rfl,rfl⟩
 refine Ac ?_
 obtain⟨b1,hb1⟩:∃b,b=(decide (0 < (x.length:Int))):=⟨_,rfl⟩
 refine Af (CS:=[(5,((!b1)=true→(!b1)=true)),(6,((!b1)=true→(!b1)=true)),(7,(b1=false→(!b1)=true))]) [19,20,21] [0,1,2,7,22] [] hk0 (vk 4 18 (a:=.bool (decide (0 < (x.length:Int)))) (b:=.bool b1) (Imp.of_eq (by rw[hb1]))<|v0) (by refine cc _ ?_<|cc _ ?_<|cc _ ?_ c0<;>simp) ?_
 refine Bd (q:=b1||(decide (0 < (k.length:Int)))) (by kernel_rfl) (fun c1=>?_) (fun c1=>?_)
 ·subst hb1
  try simp only[Am] at c1
  have hne:¬(x=[]∧k=[]):=by rintro⟨rfl,rfl⟩;simp at c1
  refine Ai ?_
  refine Ay ?_
  have qh1:((((!(decide ((k.length:Int)=0)))&&(decide (0 < (x.length:Int))))=true→(((!(decide ((k.length:Int)=0)))&&(decide (0 < (x.length:Int))))=true)∧(0≤(0:Int)∧0 < k.length))):=by
   intro hq;simp only[Bool.and_eq_true,Bool.not_eq_true',decide_eq_false_iff_not,decide_eq_true_eq] at hq ⊢;omega
  refine Cr [27,28,29,30,31,32,33,34,35,36,37,38] [0,1,2,7,8] [] hk0 (vk 17 39 (a:=(.bool ((decide ((k.length:Int)=0))||((decide (0 < (x.length:Int)))&&(decide ((nth x 0)≤(nth k 0))))))) (b:=(.bool (Cc x k))) (Imp.of_eq (congrArg AV.bool (Q2e x k)))<|v0) (cc 5 (p:=((!(decide ((k.length:Int)=0)))=true→(!(decide ((k.length:Int)=0)))=true)) (by simp)<|cc 6 (p:=((!(decide ((k.length:Int)=0)))=true→(!(decide ((k.length:Int)=0)))=true)) (by simp)<|cc 7 (p:=((!(decide ((k.length:Int)=0)))=true→(!(decide ((k.length:Int)=0)))=true)) (by simp)<|cc 9 (p:=(((!(decide ((k.length:Int)=0)))&&(decide (0 < (x.length:Int))))=true→(((!(decide ((k.length:Int)=0)))&&(decide (0 < (x.length:Int))))=true)∧(0≤(0:Int)∧0 < x.length))) (by simp)<|cc 10 (p:=(((!(decide ((k.length:Int)=0)))&&(decide (0 < (x.length:Int))))=true→((!(decide ((k.length:Int)=0)))&&(decide (0 < (x.length:Int))))=true)) (by simp)<|cc 12 (p:=(((!(decide ((k.length:Int)=0)))&&(decide (0 < (x.length:Int))))=true→(((!(decide ((k.length:Int)=0)))&&(decide (0 < (x.length:Int))))=true)∧(0≤(0:Int)∧0 < k.length))) qh1<|cc 13 (p:=(((!(decide ((k.length:Int)=0)))&&(decide (0 < (x.length:Int))))=true→((!(decide ((k.length:Int)=0)))&&(decide (0 < (x.length:Int))))=true)) (by simp)<|cc 14 (p:=(((!(decide ((k.length:Int)=0)))&&(decide (0 < (x.length:Int))))=true→((!(decide ((k.length:Int)=0)))&&(decide (0 < (x.length:Int))))=true∧((!(decide ((k.length:Int)=0)))&&(decide (0 < (x.length:Int))))=true)) (by simp)<|cc 15 (p:=((!(decide ((k.length:Int)=0)))=true→((!(decide ((k.length:Int)=0)))=true)∧((decide (0 < (x.length:Int)))=true→((!(decide ((k.length:Int)=0)))&&(decide (0 < (x.length:Int))))=true))) (by(intros;simp_all;done))<|cc 16 (p:=((decide ((k.length:Int)=0))=false→(!(decide ((k.length:Int)=0)))=true)) (by simp)<|c0) ?_
  have qh2:((((!(decide ((x.length:Int)=0)))&&(decide (0 < (k.length:Int))))=true→(((!(decide ((x.length:Int)=0)))&&(decide (0 < (k.length:Int))))=true)∧(0≤(0:Int)∧0 < x.length))):=by
   intro hq;simp only[Bool.and_eq_true,Bool.not_eq_true',decide_eq_false_iff_not,decide_eq_true_eq] at hq ⊢;omega
  refine Cr [44,45,46,47,48,49,50,51,52,53,54,55] [0,1,2,7,8,9] [] hk0 (vk 17 56 (a:=(.bool ((decide ((x.length:Int)=0))||((decide (0 < (k.length:Int)))&&(decide ((nth k 0)≤(nth x 0))))))) (b:=(.bool (Cc k x))) (Imp.of_eq (congrArg AV.bool (Q2e k x)))<|v0) (cc 5 (p:=((!(decide ((x.length:Int)=0)))=true→(!(decide ((x.length:Int)=0)))=true)) (by simp)<|cc 6 (p:=((!(decide ((x.length:Int)=0)))=true→(!(decide ((x.length:Int)=0)))=true)) (by simp)<|cc 7 (p:=((!(decide ((x.length:Int)=0)))=true→(!(decide ((x.length:Int)=0)))=true)) (by simp)<|cc 9 (p:=(((!(decide ((x.length:Int)=0)))&&(decide (0 < (k.length:Int))))=true→(((!(decide ((x.length:Int)=0)))&&(decide (0 < (k.length:Int))))=true)∧(0≤(0:Int)∧0 < k.length))) (by simp)<|cc 10 (p:=(((!(decide ((x.length:Int)=0)))&&(decide (0 < (k.length:Int))))=true→((!(decide ((x.length:Int)=0)))&&(decide (0 < (k.length:Int))))=true)) (by simp)<|cc 12 (p:=(((!(decide ((x.length:Int)=0)))&&(decide (0 < (k.length:Int))))=true→(((!(decide ((x.length:Int)=0)))&&(decide (0 < (k.length:Int))))=true)∧(0≤(0:Int)∧0 < x.length))) qh2<|cc 13 (p:=(((!(decide ((x.length:Int)=0)))&&(decide (0 < (k.length:Int))))=true→((!(decide ((x.length:Int)=0)))&&(decide (0 < (k.length:Int))))=true)) (by simp)<|cc 14 (p:=(((!(decide ((x.length:Int)=0)))&&(decide (0 < (k.length:Int))))=true→((!(decide ((x.length:Int)=0)))&&(decide (0 < (k.length:Int))))=true∧((!(decide ((x.length:Int)=0)))&&(decide (0 < (k.length:Int))))=true)) (by simp)<|cc 15 (p:=((!(decide ((x.length:Int)=0)))=true→((!(decide ((x.length:Int)=0)))=true)∧((decide (0 < (k.length:Int)))=true→((!(decide ((x.length:Int)=0)))&&(decide (0 < (k.length:Int))))=true))) (by(intros;simp_all;done))<|cc 16 (p:=((decide ((x.length:Int)=0))=false→(!(decide ((x.length:Int)=0)))=true)) (by simp)<|c0) ?_
  refine Ab [] [0,1,2,7,8,9,10] ?_
  refine Ac ?_
  refine Ab [] [0,1,2,7,8,9,10,57] ?_
  refine Bd (q:=Cc x k) (by kernel_rfl) (fun c2=>?_) (fun c2=>?_)
  ·try simp only[Am] at c2
   have h1x:=Uu hne c2
   refine G9 (CS:=[(1,(0≤(0:Int)∧0 < x.length)),(4,(0≤(1:Int)∧(1:Int)≤(x.length:Int)∧(x.length:Int)≤(x.length:Int)))]) [] [0,1,2,7,8,9,10] [] hk0 (vk 6 62 (a:=(.row 1 (x.length-1) (fun kx=>(.int .i64 (nth x (1+kx)))))) (b:=(Ah (x.drop 1))) (Vj (by omega))<|v0) (by refine cc _ ?_<|cc _ ?_ c0<;>omega) ?_
   refine Ac ?_
   refine Ab [] [0,1,2,7,8,9,10,63] ?_
   refine Bd (q:=Cc k x) (by kernel_rfl) (fun c3=>?_) (fun c3=>?_)
   ·try simp only[Am] at c3
    have h1y:=Uu (fun q=>hne ⟨q.2,q.1⟩) c3
    refine G9 (CS:=[(1,(0≤(0:Int)∧0 < k.length)),(4,(0≤(1:Int)∧(1:Int)≤(k.length:Int)∧(k.length:Int)≤(k.length:Int)))]) [] [0,1,2,7,8,9,10] [] hk0 (vk 6 68 (a:=(.row 1 (k.length-1) (fun kx=>(.int .i64 (nth k (1+kx)))))) (b:=(Ah (k.drop 1))) (Vj (by omega))<|v0) (by refine cc _ ?_<|cc _ ?_ c0<;>omega) ?_
    refine Ac ?_
    refine An ?_
    refine B2 3 0 [] [0,1,2,7,10,69,70,71] [] hk0 v0 c0 ?_
    refine F9 (s':=[(0,(Ah (x.drop 1))),(1,(Ah (k.drop 1))),(2,(.clo q)),(7,(.own 0)),(10,(.int .i64 (nth k 0))),(69,(.clo q)),(70,(.bool (Cc x k))),(71,(.bool (Cc k x))),(72,(.bool (p ((Cc x k)) ((Cc k x)))))]) (a:=(.clo q)) (al:=[(.bool (Cc x k)),(.bool (Cc k x))]) (r:=(.bool (p ((Cc x k)) ((Cc k x))))) (by kernel_rfl) (by kernel_rfl) (by kernel_rfl) (by kernel_rfl) (by kernel_rfl) ((hq _ _).clo) (by kernel_rfl) ?_
    refine Cd ?_
    refine Bd (q:=p ((Cc x k)) ((Cc k x))) (by kernel_rfl) (fun c4=>?_) (fun c4=>?_)
    ·try simp only[Am] at c4
     refine An ?_
     refine Au 0 [] [0,1,2,7] [] hk0 v0 (cc 3 (p:=(((zs.map (AV.int .i64)).length+1)*8≤140737488355328)) (by(simp;omega))<|c0) ?_
     refine⟨by kernel_rfl,_,?_,g1-1,(x.drop 1),(k.drop 1),zs++[nth k 0],?_,?_,?_,?_,?_,(Eq.trans (b:=(⟨[(0,(Ah (x.drop 1))),(1,(Ah (k.drop 1))),(2,(.clo q)),(7,(.own 0))],[(0,(.grow ((zs.map (AV.int .i64))++([(.int .i64 (nth k 0))]:List AV)) 3 1))],1⟩:St)) (by kernel_rfl) (by rw[List.map_append]<;>kernel_rfl)),rfl⟩
     ·omega
     ·(try rw[List.length_drop]);omega
     ·(try rw[List.length_drop]);omega
     ·(repeat rw[List.length_drop]);omega
     ·(try rw[List.length_append,List.length_singleton]);(repeat rw[List.length_drop]);omega
     ·rw[c2,c3] at c4
      rw[f1_5,Mh (by omega) hne c2 c3]
      simp[c4]
    ·try simp only[Am] at c4
     refine Ai ?_
     refine⟨by kernel_rfl,_,?_,g1-1,(x.drop 1),(k.drop 1),zs,?_,?_,?_,?_,?_,(by kernel_rfl),rfl⟩
     ·omega
     ·(try rw[List.length_drop]);omega
     ·(try rw[List.length_drop]);omega
     ·(repeat rw[List.length_drop]);omega
     ·(try rw[List.length_append,List.length_singleton]);(repeat rw[List.length_drop]);omega
     ·rw[c2,c3] at c4
      rw[f1_5,Mh (by omega) hne c2 c3]
      simp[c4]
   ·try simp only[Am] at c3
    refine Ai ?_
    refine Ac ?_
    refine An ?_
    refine B2 3 0 [] [0,1,2,7,10,69,70,71] [] hk0 v0 c0 ?_
    refine F9 (s':=[(0,(Ah (x.drop 1))),(1,(Ah k)),(2,(.clo q)),(7,(.own 0)),(10,(.int .i64 (nth x 0))),(69,(.clo q)),(70,(.bool (Cc x k))),(71,(.bool (Cc k x))),(72,(.bool (p ((Cc x k)) ((Cc k x)))))]) (a:=(.clo q)) (al:=[(.bool (Cc x k)),(.bool (Cc k x))]) (r:=(.bool (p ((Cc x k)) ((Cc k x))))) (by kernel_rfl) (by kernel_rfl) (by kernel_rfl) (by kernel_rfl) (by kernel_rfl) ((hq _ _).clo) (by kernel_rfl) ?_
    refine Cd ?_
    refine Bd (q:=p ((Cc x k)) ((Cc k x))) (by kernel_rfl) (fun c5=>?_) (fun c5=>?_)
    ·try simp only[Am] at c5
     refine An ?_
     refine Au 0 [] [0,1,2,7] [] hk0 v0 (cc 3 (p:=(((zs.map (AV.int .i64)).length+1)*8≤140737488355328)) (by(simp;omega))<|c0) ?_
     refine⟨by kernel_rfl,_,?_,g1-1,(x.drop 1),k,zs++[nth x 0],?_,?_,?_,?_,?_,(Eq.trans (b:=(⟨[(0,(Ah (x.drop 1))),(1,(Ah k)),(2,(.clo q)),(7,(.own 0))],[(0,(.grow ((zs.map (AV.int .i64))++([(.int .i64 (nth x 0))]:List AV)) 3 1))],1⟩:St)) (by kernel_rfl) (by rw[List.map_append]<;>kernel_rfl)),rfl⟩
     ·omega
     ·(try rw[List.length_drop]);omega
     ·(try rw[List.length_drop]);omega
     ·(repeat rw[List.length_drop]);omega
     ·(try rw[List.length_append,List.length_singleton]);(repeat rw[List.length_drop]);omega
     ·rw[c2,c3] at c5
      rw[f1_5,Mh (by omega) hne c2 c3]
      simp[c5]
    ·try simp only[Am] at c5
     refine Ai ?_
     refine⟨by kernel_rfl,_,?_,g1-1,(x.drop 1),k,zs,?_,?_,?_,?_,?_,(by kernel_rfl),rfl⟩
     ·omega
     ·(try rw[List.length_drop]);omega
     ·(try rw[List.length_drop]);omega
     ·(repeat rw[List.length_drop]);omega
     ·(try rw[List.length_append,List.length_singleton]);(repeat rw[List.length_drop]);omega
     ·rw[c2,c3] at c5
      rw[f1_5,Mh (by omega) hne c2 c3]
      simp[c5]
  ·try simp only[Am] at c2
   refine Ai ?_
   refine Ac ?_
   refine Ab [] [0,1,2,7,8,9,10,63] ?_
   refine Bd (q:=Cc k x) (by kernel_rfl) (fun c6=>?_) (fun c6=>?_)
   ·try simp only[Am] at c6
    have h1y:=Uu (fun q=>hne ⟨q.2,q.1⟩) c6
    refine G9 (CS:=[(1,(0≤(0:Int)∧0 < k.length)),(4,(0≤(1:Int)∧(1:Int)≤(k.length:Int)∧(k.length:Int)≤(k.length:Int)))]) [] [0,1,2,7,8,9,10] [] hk0 (vk 6 68 (a:=(.row 1 (k.length-1) (fun kx=>(.int .i64 (nth k (1+kx)))))) (b:=(Ah (k.drop 1))) (Vj (by omega))<|v0) (by refine cc _ ?_<|cc _ ?_ c0<;>omega) ?_
    refine Ac ?_
    refine An ?_
    refine B2 3 0 [] [0,1,2,7,10,69,70,71] [] hk0 v0 c0 ?_
    refine F9 (s':=[(0,(Ah x)),(1,(Ah (k.drop 1))),(2,(.clo q)),(7,(.own 0)),(10,(.int .i64 (nth k 0))),(69,(.clo q)),(70,(.bool (Cc x k))),(71,(.bool (Cc k x))),(72,(.bool (p ((Cc x k)) ((Cc k x)))))]) (a:=(.clo q)) (al:=[(.bool (Cc x k)),(.bool (Cc k x))]) (r:=(.bool (p ((Cc x k)) ((Cc k x))))) (by kernel_rfl) (by kernel_rfl) (by kernel_rfl) (by kernel_rfl) (by kernel_rfl) ((hq _ _).clo) (by kernel_rfl) ?_
    refine Cd ?_
    refine Bd (q:=p ((Cc x k)) ((Cc k x))) (by kernel_rfl) (fun c7=>?_) (fun c7=>?_)
    ·try simp only[Am] at c7
     refine An ?_
     refine Au 0 [] [0,1,2,7] [] hk0 v0 (cc 3 (p:=(((zs.map (AV.int .i64)).length+1)*8≤140737488355328)) (by(simp;omega))<|c0) ?_
     refine⟨by kernel_rfl,_,?_,g1-1,x,(k.drop 1),zs++[nth k 0],?_,?_,?_,?_,?_,(Eq.trans (b:=(⟨[(0,(Ah x)),(1,(Ah (k.drop 1))),(2,(.clo q)),(7,(.own 0))],[(0,(.grow ((zs.map (AV.int .i64))++([(.int .i64 (nth k 0))]:List AV)) 3 1))],1⟩:St)) (by kernel_rfl) (by rw[List.map_append]<;>kernel_rfl)),rfl⟩
     ·omega
     ·(try rw[List.length_drop]);omega
     ·(try rw[List.length_drop]);omega
     ·(repeat rw[List.length_drop]);omega
     ·(try rw[List.length_append,List.length_singleton]);(repeat rw[List.length_drop]);omega
     ·rw[c2,c6] at c7
      rw[f1_5,Mh (by omega) hne c2 c6]
      simp[c7]
    ·try simp only[Am] at c7
     refine Ai ?_
     refine⟨by kernel_rfl,_,?_,g1-1,x,(k.drop 1),zs,?_,?_,?_,?_,?_,(by kernel_rfl),rfl⟩
     ·omega
     ·(try rw[List.length_drop]);omega
     ·(try rw[List.length_drop]);omega
     ·(repeat rw[List.length_drop]);omega
     ·(try rw[List.length_append,List.length_singleton]);(repeat rw[List.length_drop]);omega
     ·rw[c2,c6] at c7
      rw[f1_5,Mh (by omega) hne c2 c6]
      simp[c7]
   ·try simp only[Am] at c6
    have:=X3x hne c2
    rw[c6] at this
    cases this
 ·subst hb1
  try simp only[Am] at c1
  refine Bp ?_
  refine Ab [] [6] ?_
  refine Ag ?_
  refine RK wR [(.row 1 (zs.map (AV.int .i64)).length (fun ix=>(zs.map (AV.int .i64)).getD ix Br))] ?_
  simp only[Ak]
  exact Same.grown (f:=AV.int .i64) (l:=K5 p a b) (by
   obtain rfl:x=[]:=List.length_eq_zero_iff.1 (by omega)
   obtain rfl:k=[]:=List.length_eq_zero_iff.1 (by omega)
   unfold K5
   rw[f1_5,X18,List.append_nil])
theorem Oh (a b : List Int) (ha : a.length ≤ 4194304) (hb : b.length ≤ 4194304) :
  FnV Tryz.prog 73 [(Ah a),(Ah b)] (Ah (Ad a b)):=by
 refine A8 [.tmp 4] Tryz.func73 rfl Tryz.ntmps73 rfl rfl (fun B F hF=>?_)
 refine Ab [] [0,1] ?_
 refine Af [] [4] [] (hk 2 (al:=[(Ah a),(Ah b),(.fn 134 [] [])]) Q3z (((Q0s a b (.fn 134 [] []) (fun _ v => !v) ha hb (fun u v=>FunV.of (by exact X51) (X1z u v))).of_args (ImpL.cons Imp.refl (ImpL.cons Imp.refl (ImpL.cons (Imp.clo rfl) ImpL.nil)))).to (Same.of_eq (by rw[X1y])))<|hk0) v0 c0 ?_
 refine Ag ?_
 refine RK wR [(Ah (Ad a b))] ?_
 exact Same.of_eq (by first|rfl|(simp only[Ak];simp_all))
theorem Un (a b : List Int) (ha : a.length ≤ 4194304) (hb : b.length ≤ 4194304) :
  FnV Tryz.prog 69 [(Ah a),(Ah b)] (Ah (A3 a b)):=by
 refine A8 [.tmp 4] Tryz.func69 rfl Tryz.ntmps69 rfl rfl (fun B F hF=>?_)
 refine Ab [] [0,1] ?_
 refine Af [] [4] [] (hk 2 (al:=[(Ah a),(Ah b),(.fn 132 [] [])]) Q3z (((Q0s a b (.fn 132 [] []) (fun _ _=>true) ha hb (fun u v=>FunV.of (by exact X52) (Q68 u v))).of_args (ImpL.cons Imp.refl (ImpL.cons Imp.refl (ImpL.cons (Imp.clo rfl) ImpL.nil)))).to (Same.of_eq (by rw[Q67])))<|hk0) v0 c0 ?_
 refine Ag ?_
 refine RK wR [(Ah (A3 a b))] ?_
 exact Same.of_eq (by first|rfl|(simp only[Ak];simp_all))
end Sv
end
section
open Go Go.RowKit
namespace Sv
attribute [local irreducible] SW SO Bs
set_option maxHeartbeats 1000000
set_option maxRecDepth 100000
def Dv (k:Int) (a b:List UInt8):Int × Int:=if ¬(A7 k a b).2.2=0 then (0,(A7 k a b).2.2) else (orI (B5 k (A7 k a b).1 (A7 k a b).2.1).1 (B5 k (A7 k a b).1 (A7 k a b).2.1).2,0)
def Sgn (x:Int):Prop := -1≤x∧x≤1
theorem Nq:Sgn 0:=⟨by decide,by decide⟩
theorem Np:Sgn 1:=⟨by decide,by decide⟩
theorem Po:Sgn (-1):=⟨by decide,by decide⟩
theorem Vy (a b:Int):Sgn (C7 a b):=by unfold C7 Sgn;split<;>(try split)<;>omega
theorem N2 {a b:Int} (h1:Sgn a) (h2:Sgn b):Sgn (orI a b):=by unfold orI;split<;>assumption
theorem Tu {g:Int} (a b:Bool) (h:Sgn g):Sgn (E3 a b g):=by unfold E3 Sgn at *;split<;>(try split)<;>omega
theorem V2:∀a b:List UInt8,Sgn (Lib.compareBytes a b)
 |[],[]=>Nq
 |[],_::_=>Po
 |_::_,[]=>Np
 |a::r,b::s=>by
  unfold Lib.compareBytes
  split
  ·exact Po
  ·split
   ·exact Np
   ·exact V2 r s
theorem N4 (a b:List UInt8):Sgn (C3 a b):=N2 (Vy _ _) (V2 _ _)
theorem Rr:∀(n:Nat) (a b:List UInt8),Sgn (Dq n a b)
 |0,_,_=>Nq
 |n+1,a,b=>by
  unfold Dq
  split
  ·split
   ·exact Vy _ _
   ·exact Rr n _ _
  ·split
   ·exact N4 _ _
   ·split
    ·exact Rr n _ _
    ·exact Nq
theorem Pt:∀(n:Nat) (a b:List UInt8),Sgn (E2 n a b)
 |0,_,_=>Nq
 |n+1,a,b=>by
  unfold E2 Dn
  repeat' split
  all_goals first|exact Pt n _ _|exact Tu _ _ Np|exact Tu _ _ Po|exact Vy _ _|exact N4 _ _|exact V2 _ _|exact Np|exact Po
theorem Vz (k:Int) (a b:List UInt8):Sgn (Dv k a b).1:=by
 unfold Dv
 split
 ·exact Nq
 ·have h1 : ∀ x y : List UInt8 × List UInt8 × List UInt8, Sgn (B5 k x y).1 ∧ Sgn (B5 k x y).2 := fun x y => by
   unfold B5 H0 Gr
   split
   ·exact⟨N2 (N4 _ _) (Rr _ _ _),Rr _ _ _⟩
   ·split
    ·exact⟨N2 (N4 _ _) (Pt _ _ _),Tu _ _ Np⟩
    ·exact⟨N2 (N4 _ _) (Pt _ _ _),Pt _ _ _⟩
  exact N2 (h1 _ _).1 (h1 _ _).2
theorem X62 (k : Int) (a b : List UInt8) (ha : a.length ≤ 4194304) (hb : b.length ≤ 4194304) :
  FnV Tryz.prog 85 [(.int .i64 k),(.str a),(.str b)] (.tup [.int .i64 (Dv k a b).1,.int .i64 (Dv k a b).2]):=by
 have hbl:=Rz k a b
 refine A8 [.tmp 6,.tmp 7] Tryz.func85 rfl Tryz.ntmps85 rfl rfl (fun B F hF=>?_)
 refine Ab [] [0,1,2] ?_
 refine Af [] [0,8,9,10] [(11,8),(12,9)] (hk 3 Q3y (Q42 k a b (by omega) (by omega))<|hk0) v0 c0 ?_
 refine Ac ?_
 refine Ab [] [0,8,9,10,20] ?_
 refine Da (p:=((A7 k a b).2.2)=0) (by kernel_rfl) (fun c1=>?_) (fun c1=>?_)
 ·refine Ab [] [6,7] ?_
  refine Ag ?_
  refine RK wR [(.int .i64 0),(.int .i64 ((A7 k a b).2.2))] ?_
  exact Same.of_eq (by simp only[Ak];unfold Dv;rw[if_pos (by assumption)])
 ·refine Ai ?_
  refine Af [] [6,7] [(7,28)] (hk 3 Q3x (Y7 k (A7 k a b).1 (A7 k a b).2.1 ⟨by omega,by omega,by omega⟩ ⟨by omega,by omega,by omega⟩)<|hk 7 Rj (Qg (B5 k (A7 k a b).1 (A7 k a b).2.1).1 (B5 k (A7 k a b).1 (A7 k a b).2.1).2)<|hk0) (vk 7 28 (b:=(Ah [(B5 k (A7 k a b).1 (A7 k a b).2.1).1,(B5 k (A7 k a b).1 (A7 k a b).2.1).2])) (Imp.list (f:=AV.int .i64) rfl)<|v0) c0 ?_
  refine Ag ?_
  refine RK wR [(.int .i64 (orI (B5 k (A7 k a b).1 (A7 k a b).2.1).1 (B5 k (A7 k a b).1 (A7 k a b).2.1).2)),(.int .i64 0)] ?_
  exact Same.of_eq (by simp only[Ak];unfold Dv;rw[if_neg (by simp_all)])
end Sv
end
section
open Go Go.RowKit
namespace Sv
abbrev Bq:=Int × Int × Int
def Fa (k:Int):Bool:=decide (k=1)||(decide (k=3)||(decide (k=4)||decide (k=5)))
def E9 (k:Int):Bool:=decide (k=2)||(decide (k=6)||decide (k=7))
def F7 (s:List Int) (q:Bq):List Int:=if Fa q.1=true then A3 s [q.2.1] else if E9 q.1=true then Ad s [q.2.1] else s
def Al (l:List Int) (q:List Bq):List Int:=q.foldl F7 (Cf l)
theorem O0 {l:List Int} {q:List Bq} {x:Bq}:Al l (q++[x])=F7 (Al l q) x:=by unfold Al;rw[List.foldl_append];rfl
theorem Q2a {α β:Type} {C:β→Prop} {f:β→α→β} (h:∀s a,C s→C (f s a)):∀(l:List α) (s:β),C s→C (l.foldl f s)
  |[],_,k=>k
  |a::l,s,k=>Q2a h l _ (h s a k)
theorem R2 (l:List Int) (q:List Bq):C4 (Al l q):=Q2a (C:=C4) (fun s a h=>by
  unfold F7
  split
  · exact Nh _ _
  · split
    · exact Ij _ _
    · exact h) q _ (I3 l)
theorem X71 (s:List Int) (x:Bq):(F7 s x).length≤s.length+1:=by
  unfold F7
  split
  · have:=H8 (s++[x.2.1])
    unfold A3
    rw[List.length_append,List.length_singleton] at this
    exact this
  · split
    · have h1:=H8 (s.filter fun z => !decide (z∈[x.2.1]))
      have h2:=List.length_filter_le (fun z => !decide (z∈[x.2.1])) s
      unfold Ad;omega
    · omega
theorem O1 (l:List Int) (q:List Bq):(Al l q).length≤l.length+q.length:=by
  have h:∀(q:List Bq) (s:List Int),(q.foldl F7 s).length≤s.length+q.length:=by
    intro q
    induction q with
    |nil=>intro s;exact Nat.le_refl _
    |cons x q ih =>
      intro s
      have h1:=X71 s x
      have h2:=ih (F7 s x)
      simp only[List.foldl_cons,List.length_cons];omega
  have h1:=h q (Cf l)
  have h2:=H8 l
  unfold Al;omega
def Bw (p:Int→Bool) (l:List Int):Int:=if 0≤B8 p l then nth l (B8 p l).toNat else -1
theorem Nt:∀{l:List Int},C4 l→l.Nodup
  |[],_=>List.nodup_nil
  |x::l,h=>List.nodup_cons.2 ⟨fun k=>by have:=h.1 x k;omega,Nt h.2⟩
section
variable {f : List Int → List Int → Int → Bq} {a b : List Int}
def Q59 (f:List Int→List Int→Int→Bq):Prop:=∀c g i,(f c g i).2.1=i∧(i∈c→Fa (f c g i).1=true∧E9 (f c g i).1=false)∧(¬i∈c→Fa (f c g i).1=false∧E9 (f c g i).1=true)
def Ba (f:List Int→List Int→Int→Bq) (a b:List Int):List Bq:=(A3 (Ad b a) (Ad a b)).map (f (Ad b a) (Ad a b))
theorem Q7j (h:Q59 f):(Ba f a b).map (fun x=>x.2.1)=A3 (Ad b a) (Ad a b):=by
  unfold Ba
  rw[List.map_map]
  refine Eq.trans (List.map_congr_left fun i _=>(h _ _ i).1) (List.map_id _)
theorem Q7k:(Ba f a b).length=(A3 (Ad b a) (Ad a b)).length:=by unfold Ba;rw[List.length_map]
end
def Q0q (st:PoolT) (o:Int):List UInt8:=(nth st.all o.toNat).1.name
def Mt (st:PoolT) (o:Int):List UInt8:=(nth st.all o.toNat).1.evr
def Ce (st:PoolT) (id o:Int):Bool:=decide (Q0q st o=Q0q st id)
def Em (m:Int→Int→List UInt8→Int→List UInt8→Bool × Int) (st:PoolT) (id o:Int):Bool:=(nth st.all o.toNat).1.obsoletes.any fun d=>decide (id∈(E5 m st d).1)
def Gl (st:PoolT) (g:List Int) (id:Int):Bq :=
  if 0≤Bw (Ce st id) g then (nth [4,5,3] ((Dv st.kind (Mt st id) (Mt st (Bw (Ce st id) g))).1+1).toNat,id,Bw (Ce st id) g) else (1,id,Bw (Ce st id) g)
def goS (m:Int→Int→List UInt8→Int→List UInt8→Bool × Int) (st:PoolT) (c:List Int) (id:Int):Bq :=
  if 0≤Bw (Ce st id) c then (6,id,Bw (Ce st id) c) else if 0≤Bw (Em m st id) c then (7,id,Bw (Em m st id) c) else (2,id,Bw (Em m st id) c)
def A2 (m:Int→Int→List UInt8→Int→List UInt8→Bool × Int) (st:PoolT) (c g:List Int) (id:Int):Bq:=if id∈c then Gl st g id else goS m st c id
def Ea (st:PoolT) (id:Int):Bool:=decide (id < 0)||decide ((st.all.length:Int)≤id)
def Ap (m:Int→Int→List UInt8→Int→List UInt8→Bool × Int) (st:PoolT) (a b:List Int):List Bq × Int:=if a.any (Ea st)=true∨b.any (Ea st)=true then ([],69) else (Ba (A2 m st) a b,0)
theorem Nn (m:Int→Int→List UInt8→Int→List UInt8→Bool × Int) (st:PoolT):Q59 (A2 m st):=by
  intro c g i
  refine⟨?_,fun h=>?_,fun h=>?_⟩
  · unfold A2 Gl goS
    repeat' split
    all_goals rfl
  · unfold A2 Gl
    rw[if_pos h]
    split
    · have h1:=Vz st.kind (Mt st i) (Mt st (Bw (Ce st i) g))
      unfold Sgn at h1
      generalize (Dv st.kind (Mt st i) (Mt st (Bw (Ce st i) g))).1=x at h1
      rcases (by omega:x = -1∨x=0∨x=1) with rfl|rfl|rfl<;>exact⟨rfl,rfl⟩
    · exact⟨rfl,rfl⟩
  · unfold A2 goS
    rw[if_neg h]
    repeat' split
    all_goals exact⟨rfl,rfl⟩
theorem Kr {m:Int→Int→List UInt8→Int→List UInt8→Bool × Int} {st:PoolT} {a b:List Int} (ha:∀x∈a,0≤x∧x < st.all.length) (hb:∀x∈b,0≤x∧x < st.all.length):Ap m st a b=(Ba (A2 m st) a b,0):=by
  have k:∀l:List Int,(∀x∈l,0≤x∧x < st.all.length)→l.any (Ea st)=false:=fun l h=>by
    rw[List.any_eq_false]
    intro x hx
    have:=h x hx
    unfold Ea
    simp;omega
  unfold Ap
  rw[k a ha,k b hb];rfl
end Sv
end
section
open Go Go.RowKit
namespace Sv
section
variable {P : Program} {n : Nat} {φ : Phi} {σ : Nat → Value}
theorem Q71 {dst : Option Tmp} {t : Nat} {X LO HI MX : Operand} {ty : TypeId} {ps : String} {af : Array Edge} {g : Option (Nat × Bool)} {e sz len i j m : Nat} {k1 k2 k3 : IntKind} {gf : Nat → AV} {s : Fr}
    (he:Fq P t=some e) (hs:tsz P e=some sz) (hx:evA s X=some (.row sz len gf)) (h1:evA s LO=some (.int k1 (i:Int))) (h2:evA s HI=some (.int k2 (j:Int))) (h3:evA s MX=some (.int k3 (m:Int)))
    (hj:i < j) (hjm:j≤m) (hm:m≤len) (φ:Phi) (σ:Nat→Value) (h:FRel φ n s σ) :
    ∃v,(∀w,(execOp (ev n σ) ⟨dst,.slice t X (some LO) (some HI) (some MX),ty,ps,af,g⟩).run P w = .ok (.value v) w)∧VR φ (.row sz (j-i) (fun q=>gf (i+q))) v:=by
  have hx:=h.ev _ _ hx
  have h1:=h.ev _ _ h1
  have h2:=h.ev _ _ h2
  have h3:=h.ev _ _ h3
  simp only[VR] at hx h1 h2 h3
  obtain⟨u,hu,hr⟩:=hx
  rcases hr with⟨h0,_⟩|⟨b,o,c,hv,hmc,hl⟩
  · omega
  · have hb:=fun w=>Hc (P:=P) (isS:=true) (len:=len) (cap:=c) (i:=i) (j:=j) (m:=m) (lo:=some (.int k1 (i:Int))) (hi:=some (.int k2 (j:Int))) (mx:=some (.int k3 (m:Int))) (.inr ⟨_,rfl⟩) (.inr ⟨_,rfl⟩) (.inr ⟨⟨_,rfl⟩,by simp⟩) (by omega) (by omega) (by omega) w
    refine⟨.slice (some (if m=i then ⟨b,o,none⟩ else (⟨b,o,none⟩:Addr).add (i*sz))) (j-i) (m-i),fun w=>?_,?_⟩
    · simp only[execOp,Instr.sliceAt,Instr.slice,Sem.run_bind,Sem.run_pure,run_underlying (D6 he),Result.andThen_ok,hv,hb,Db hs,Option.map_some,h1,h2,h3]<;>(try split)<;>rfl
    · simp only[VR]
      refine⟨fun q=>u (i+q),fun q hq=>hu _ (by omega),.inr ⟨b,o+i*sz,m-i,by rw[if_neg (by omega),Eo],by omega,fun q hq=>?_⟩⟩
      have:=hl (i+q) (by omega)
      refine⟨this.1,?_⟩
      rw[show o+i*sz+q*sz=o+(i+q)*sz by rw[Nat.add_mul];omega]
      exact this.2
end
end Sv
end
section
open Go Go.RowKit
namespace Sv
attribute [local irreducible] SW SO Bs
set_option maxHeartbeats 400000
set_option maxRecDepth 100000
theorem X4f:As Tryz.prog 86:=Az Tryz.func86 (by kernel_rfl) rfl
theorem U4:As Tryz.prog 84:=Az Tryz.func84 (by kernel_rfl) rfl
theorem X4i:As Tryz.prog 81:=Az Tryz.func81 (by kernel_rfl) rfl
theorem X4h:As Tryz.prog 82:=Az Tryz.func82 (by kernel_rfl) rfl
theorem X4e:As Tryz.prog 87:=Az Tryz.func87 (by kernel_rfl) rfl
theorem X4d:As Tryz.prog 89:=Az Tryz.func89 (by kernel_rfl) rfl
theorem Kz {p:PkgT} {n:Nat} (h:p.size≤n):p.evr.length≤n∧p.obsoletes.length≤n∧∀i,i < p.obsoletes.length→(nth p.obsoletes i).size≤n:=by
 have hz:=p.sizes
 have h1:=Dw p.obsoletes
 unfold PkgT.depSize at hz
 refine⟨by omega,by omega,fun i hi=>?_⟩
 have h2:=Ke (l:=p.obsoletes) (i:=i) hi
 omega
theorem Q5l (l:List Int) (v:Int):(l.any fun x=>decide (v=x))=decide (v∈l):=by
 rw[Bool.eq_iff_iff];simp
theorem X1b {st:PoolT} (hi:IdxOk st) {d:DepT}:(E5 Aa st d).1.length≤4611686018427387904:=by
 unfold E5
 split
 ·exact Q0n hi
 ·simp
theorem Je {x:Int} (h:0≤x):x=((x.toNat:Nat):Int):=by omega
theorem X2r  :
  FnV Tryz.prog 86 [] (Ah [4,5,3]):=by
 refine A8 [.tmp 0] Tryz.func86 rfl Tryz.ntmps86 rfl rfl (fun B F hF=>?_)
 refine Ab [] [] ?_
 refine Ab [] [1] ?_
 refine Ac ?_
 refine An ?_
 refine B2 1 0 [] [3] [] hk0 v0 c0 ?_
 refine Wh 3 (y:=⟨[(3,(.row 1 4 (fun ix=>(Fh 1 4 [(.int .i64 4),(.int .i64 5),(.int .i64 3),(.int .i64 6)]).getD ix Br)))],[],1⟩) (by kernel_rfl) ?_
 refine Fd 3 (Ah [4,5,3,6]) (by kernel_rfl) (Imp.list (f:=AV.int .i64) rfl) ?_
 refine Pc (s':=[(3,(Ah [4,5,3,6])),(4,(.row 1 (3-0) (fun kx=>Jy (Ah [4,5,3,6]) (0+kx))))]) (.row 1 (3-0) (fun kx=>Jy (Ah [4,5,3,6]) (0+kx))) (by kernel_rfl) (Q71 (k1:=.i64) (k2:=.i64) (k3:=.i64) (e:=3) (i:=0) (j:=3) (m:=3) (len:=[4,5,3,6].length) (gf:=Jy (Ah [4,5,3,6])) (by kernel_rfl) (by kernel_rfl) (by kernel_rfl) (by kernel_rfl) (by kernel_rfl) (by kernel_rfl) (by decide) (by decide) (by simp)) (by kernel_rfl) ?_
 refine Au 2 [] [0] [] hk0 v0 c0 ?_
 refine Ag ?_
 refine RK wR [(.row 1 (3-0) (fun kx=>Jy (Ah [4,5,3,6]) (0+kx)))] ?_
 simp only[Ak]
 exact(Imp.row fun i hi=>Imp.of_eq (by rcases (by simpa using hi:i < 3) with h;rcases (by omega:i=0∨i=1∨i=2) with rfl|rfl|rfl<;>rfl)).same
theorem Uw (l : List Int) (a : AV) (p : Int → Bool) (hl : l.length ≤ 4611686018427387904) (ha : ∀ i, i < l.length → FunV Tryz.prog a [.int .i64 (nth l i)] (.bool (p (nth l i)))) :
  FnV Tryz.prog 84 [(Ah l),(.int .i64 (-1)),(.clo a)] (.int .i64 (Bw p l)):=by
 have hle:=La p l
 refine A8 [.tmp 6] Tryz.func84 rfl Tryz.ntmps84 rfl rfl (fun B F hF=>?_)
 refine Ab [] [0,1,2] ?_
 refine Ac ?_
 refine Af [] [0,1,7] [] (hk 2 Q32 (Q1j l a p hl ha)<|hk0) v0 c0 ?_
 refine Ab [] [0,1,7,12] ?_
 refine A5 (p:=0≤(B8 p l)) (by kernel_rfl) (fun c1=>?_) (fun c1=>?_)
 ·refine Af [] [6] [] hk0 v0 (cc 2 (p:=(0≤B8 p l∧(B8 p l:Int).toNat < l.length)) (by omega)<|c0) ?_
  refine Ag ?_
  refine RK wR [(.int .i64 (nth l ((B8 p l:Int).toNat)))] ?_
  exact Same.of_eq (by simp only[Ak];unfold Bw;rw[if_pos (by simp_all)])
 ·refine Ai ?_
  refine Ab [] [6] ?_
  refine Ag ?_
  refine RK wR [(.int .i64 (-1))] ?_
  exact Same.of_eq (by simp only[Ak];unfold Bw;rw[if_neg (by simp_all)])
theorem X07 (st : PoolT) (id : Int) :
  FnV Tryz.prog 81 [(.int .i64 id),(.fp (.agg [(.fp (Bx st))]))] (.bool (Ea st id)):=by
 refine A8 [.tmp 3] Tryz.func81 rfl Tryz.ntmps81 rfl rfl (fun B F hF=>?_)
 refine Ab [] [0,1] ?_
 obtain⟨b1,hb1⟩:∃b,b=(decide (id < 0)):=⟨_,rfl⟩
 refine Af (CS:=[(5,(!b1)=true→(!b1)=true),(6,((!b1)=true→(!b1)=true∧(!b1)=true)),(7,(b1=false→(!b1)=true))]) [7,8,10] [3] [] (hkg 5 (!b1) Q28 (fun cg=>Q6s st)<|hk0) (vk 3 6 (a:=.bool (decide (id < 0))) (b:=.bool b1) (Imp.of_eq (by rw[hb1]))<|v0) (by refine cc _ ?_<|cc _ ?_<|cc _ ?_ c0<;>simp) ?_
 refine Ag ?_
 refine RK wR [(.bool (b1||(decide ((st.all.length:Int)≤id))))] ?_
 subst hb1
 exact Same.of_eq (by simp only[Ak];rfl)
theorem X1s (st : PoolT) (hi : IdxOk st) (id : Int) (o : Nat) (ho : o < st.all.length) :
  FnV Tryz.prog 82 [(.int .i64 ((o:Int))),(.fp (.agg [(.fp (Bx st))])),(.fp (Av ((nth st.all id.toNat).1)))] (.bool (Ce st id (o:Int))):=by
 refine A8 [.tmp 4] Tryz.func82 rfl Tryz.ntmps82 rfl rfl (fun B F hF=>?_)
 refine Ab [] [0,1,2] ?_
 refine Af [] [2,5] [(9,5)] (hk 2 Lf (Lq st o ho (hi.2 o ho))<|hk0) v0 c0 ?_
 refine Ab [] [4] ?_
 refine Ag ?_
 refine RK wR [(.bool (decide (((nth st.all o).1).name=((nth st.all id.toNat).1).name)))] ?_
 exact Same.of_eq (by simp only[Ak];rfl)
theorem X1d (st : PoolT) (hi : IdxOk st) (id : Int) (d : DepT) (hd : d.size ≤ 4194304) :
  FnV Tryz.prog 89 [(.agg [(.int .i64 d.kind),(.str d.name),(.int .i64 d.op),(.str d.evr),(.row 5 d.args.length (depAt d.args))]),(.fp (.agg [(.fp (Be st))])),(.fp (.agg [(.int .i64 id)]))] (.bool (decide (id∈(E5 Aa st d).1))):=by
 refine A8 [.tmp 4] Tryz.func89 rfl Tryz.ntmps89 rfl rfl (fun B F hF=>?_)
 refine Af [] [1,2,3] [(1,3)] hk0 v0 c0 ?_
 refine Af [] [2,5] [] (hk 2 X5x (X9z Aa Q0x st hi d hd)<|hk0) v0 c0 ?_
 refine Af [] [4] [] (hk 2 U5 ((Vu (E5 Aa st d).1 id (X1b hi)).to (Same.of_eq (by rw[Q5l])))<|hk0) v0 c0 ?_
 refine Ag ?_
 refine RK wR [(.bool (decide (id∈(E5 Aa st d).1)))] ?_
 exact Same.of_eq (by first|rfl|(simp only[Ak];simp_all))
theorem X1e (st:PoolT) (hi:IdxOk st) (id:Int) (d:DepT) (hd:d.size≤4194304):FunV Tryz.prog (.fn 89 [] [.fp (.agg [(.fp (Be st))]),.fp (.agg [.int .i64 id])]) [(.agg [(.int .i64 (d.kind)),(.str (d.name)),(.int .i64 (d.op)),(.str (d.evr)),(.row 5 d.args.length (depAt d.args))])] (.bool (decide (id∈(E5 Aa st d).1))):=FunV.of (by exact X4d) (X1d st hi id d hd)
theorem X1f (st : PoolT) (hi : IdxOk st) (id : Int) (o : Nat) (ho : o < st.all.length) :
  FnV Tryz.prog 87 [(.int .i64 ((o:Int))),(.fp (.agg [(.fp (Bx st))])),(.fp (.agg [(.fp (Be st))])),(.fp (.agg [(.int .i64 id)]))] (.bool (Em Aa st id (o:Int))):=by
 have hlz:=Kz (hi.2 o ho)
 refine A8 [.tmp 5] Tryz.func87 rfl Tryz.ntmps87 rfl rfl (fun B F hF=>?_)
 refine Ab [] [0,1,2,3] ?_
 refine Af [] [2,3,6] [(9,6)] (hk 2 Lf (Lq st o ho (hi.2 o ho))<|hk0) v0 c0 ?_
 refine Ac ?_
 refine An ?_
 refine B2 3 0 [] [17,18] [] hk0 v0 c0 ?_
 refine Jt (s':=[(17,(Ae 5 Ao (((nth st.all o).1).obsoletes))),(18,(.fn 89 [] [(.fp (.agg [(.fp (Be st))])),(.fp (.agg [(.int .i64 id)]))])),(19,(.bool ((nth st.all o).1.obsoletes.any fun d=>decide (id∈(E5 Aa st d).1))))]) (al:=[(Ae 5 Ao (((nth st.all o).1).obsoletes)),(.fn 89 [] [(.fp (.agg [(.fp (Be st))])),(.fp (.agg [(.int .i64 id)]))])]) (al':=[(Ae 5 Ao (((nth st.all o).1).obsoletes)),(.fn 89 [] [(.fp (.agg [(.fp (Be st))])),(.fp (.agg [(.int .i64 id)]))])]) (h':=[]) (r:=(.bool ((nth st.all o).1.obsoletes.any fun d=>decide (id∈(E5 Aa st d).1)))) (by kernel_rfl) (by exact Q9) (by kernel_rfl) (by kernel_rfl) ((Rq (nth st.all o).1.obsoletes (.fn 89 [] [(.fp (.agg [(.fp (Be st))])),(.fp (.agg [(.int .i64 id)]))]) (fun d=>decide (id∈(E5 Aa st d).1)) (by omega) (fun i hj=>X1e st hi id _ (hlz.2.2 i hj))).of_args (ImpL.cons Imp.refl (ImpL.cons (Imp.clo (by kernel_rfl)) ImpL.nil))) rfl (by kernel_rfl) ?_
 refine Au 4 [] [5] [] hk0 v0 c0 ?_
 refine Ag ?_
 refine RK wR [(.bool ((nth st.all o).1.obsoletes.any fun d=>decide (id∈(E5 Aa st d).1)))] ?_
 exact Same.of_eq (by simp only[Ak];rfl)
theorem Q0a (st:PoolT) (id:Int):FunV Tryz.prog (.fn 81 [] [.fp (.agg [(.fp (Bx st))])]) [.int .i64 id] (.bool (Ea st id)):=FunV.of (by exact X4i) (X07 st id)
theorem Q0p (st:PoolT) (hi:IdxOk st) (id o:Int) (ho:0≤o∧o < st.all.length):FunV Tryz.prog (.fn 82 [] [.fp (.agg [(.fp (Bx st))]),.fp (Av ((nth st.all id.toNat).1))]) [.int .i64 o] (.bool (Ce st id o)):=by
 obtain⟨n,rfl⟩:=Int.eq_ofNat_of_zero_le ho.1
 exact FunV.of (by exact X4h) (X1s st hi id n (by omega))
theorem X1g (st:PoolT) (hi:IdxOk st) (id o:Int) (ho:0≤o∧o < st.all.length):FunV Tryz.prog (.fn 87 [] [.fp (.agg [(.fp (Bx st))]),.fp (.agg [(.fp (Be st))]),.fp (.agg [.int .i64 id])]) [.int .i64 o] (.bool (Em Aa st id o)):=by
 obtain⟨n,rfl⟩:=Int.eq_ofNat_of_zero_le ho.1
 exact FunV.of (by exact X4e) (X1f st hi id n (by omega))
end Sv
end
section
open Go Go.RowKit
namespace Sv
attribute [local irreducible] SW SO Bs
set_option maxHeartbeats 2000000
set_option maxRecDepth 100000
theorem X4g:As Tryz.prog 85:=Az Tryz.func85 (by kernel_rfl) rfl
theorem X40:As Tryz.prog 28:=Az Tryz.func28 (by kernel_rfl) rfl
theorem X4z:As Tryz.prog 29:=Az Tryz.func29 (by kernel_rfl) rfl
def A0 (q:Bq):AV:=.agg [.int .i64 q.1,.int .i64 q.2.1,.int .i64 q.2.2]
theorem No {u:List Int} {f:Int→Bq} {i:Nat} {x:Bq} (h:i < u.length) (e:f (nth u i)=x):((u.take (i+1)).map f).map A0=((u.take i).map f).map A0++[A0 x]:=by
 rw[Hp h,List.map_append,List.map_append]
 simp[e]
theorem V9 {l:List Int} {q:List Bq} {i:Nat} (h:i < q.length):Al l (q.take (i+1))=F7 (Al l (q.take i)) (nth q i):=by rw[Hp h,O0]
theorem R3 {st:PoolT} {l:List Int} (h:¬l.any (Ea st)=true):∀x∈l,0≤x∧x < st.all.length:=by
 intro x hx
 have h:l.any (Ea st)=false:=by simpa using h
 rw[List.any_eq_false] at h
 have:=h x hx
 unfold Ea at this
 simp at this
 omega
theorem Jb {l:List Int} {i:Nat} (h:i < l.length):nth l i∈l:=by rw[Dy h];exact List.getElem_mem h
theorem Q0w {l:List Int} {x:Int} (h:x∈l):∃i,i < l.length∧nth l i=x:=by
 obtain⟨i,hi,e⟩:=List.getElem_of_mem h
 exact⟨i,hi,by rw[Dy hi,e]⟩
theorem Q0r {st:PoolT} {a b:List Int} (h:∀x∈a,0≤x∧x < st.all.length):∀j,j < (Ad a b).length→0≤nth (Ad a b) j∧nth (Ad a b) j < st.all.length:=fun j hj=>h _ (minusZ_mem.1 (Jb hj)).1
theorem Q66 {st:PoolT} {a b:List Int} (h:∀j,j < a.length→0≤nth a j∧nth a j < st.all.length) (k:∀j,j < b.length→0≤nth b j∧nth b j < st.all.length):∀j,j < (A3 a b).length→0≤nth (A3 a b) j∧nth (A3 a b) j < st.all.length:=fun j hj=>by
 rcases unionZ_mem.1 (Jb hj) with q|q
 ·obtain⟨n,hn,e⟩:=Q0w q
  rw[←e];exact h n hn
 ·obtain⟨n,hn,e⟩:=Q0w q
  rw[←e];exact k n hn
theorem Q2j {st:PoolT} {p:Int→Bool} {l:List Int} (h:∀j,j < l.length→0≤nth l j∧nth l j < st.all.length) (k:0≤Bw p l):0≤Bw p l∧Bw p l < st.all.length:=by
 unfold Bw at k ⊢
 have:=La p l
 split at k
 ·rename_i q
  rw[if_pos q];exact h _ (by omega)
 ·omega
theorem Qp (a b:List Int):(Ad a b).length≤a.length:=Nat.le_trans (H8 _) (List.length_filter_le _ _)
theorem Sl (a b:List Int):(A3 a b).length≤a.length+b.length:=by have:=H8 (a++b);rw[List.length_append] at this;exact this
theorem X81 (st : PoolT) (hi : IdxOk st) (a b : List Int) (ha : a.length ≤ 2097152) (hb : b.length ≤ 2097152) :
  FnV Tryz.prog 28 [(.fp (Bx st)),(Ah a),(Ah b)] (.tup [Ae 3 A0 (Ap Aa st a b).1,.int .i64 (Ap Aa st a b).2]):=by
 have hcl:=Qp b a
 have hgl:=Qp a b
 have hul:=Sl (Ad b a) (Ad a b)
 refine A8 [.tmp 6,.tmp 7] Tryz.func28 rfl Tryz.ntmps28 rfl rfl (fun B F hF=>?_)
 refine Af [] [1,2,3] [(1,3)] hk0 v0 c0 ?_
 refine Ac ?_
 refine Ab [] [1,2,3,26] ?_
 refine Fc (by kernel_rfl) ?_
 refine Ai ?_
 refine Ab [] [1,2,3,8] ?_
 refine Ac ?_
 refine Ac ?_
 refine An ?_
 refine B2 2 0 [] [1,2,3,8,28,29] [] hk0 v0 c0 ?_
 refine Jt (s':=[(1,(Ah a)),(2,(Ah b)),(3,(.fp (.agg [(.fp (Bx st))]))),(8,(.fn 81 [] [(.fp (.agg [(.fp (Bx st))]))])),(28,(Ah a)),(29,(.fn 81 [] [(.fp (.agg [(.fp (Bx st))]))])),(30,(.bool (a.any (Ea st))))]) (al:=[(Ah a),(.fn 81 [] [(.fp (.agg [(.fp (Bx st))]))])]) (al':=[(Ah a),(.fn 81 [] [(.fp (.agg [(.fp (Bx st))]))])]) (h':=[]) (r:=(.bool (a.any (Ea st)))) (by kernel_rfl) (by exact Rd) (by kernel_rfl) (by kernel_rfl) ((Qv a (.fn 81 [] [(.fp (.agg [(.fp (Bx st))]))]) (Ea st) (by omega) (fun j hj=>Q0a st _)).of_args (ImpL.cons Imp.refl (ImpL.cons (Imp.clo (by kernel_rfl)) ImpL.nil))) rfl (by kernel_rfl) ?_
 obtain⟨b1,hb1⟩:∃b,b=(a.any (Ea st)):=⟨_,rfl⟩
 refine B2 1 3 [] [1,2,3,8,31] [] hk0 v0 c0 ?_
 refine Fd 31 (a:=.bool (a.any (Ea st))) (.bool b1) (by kernel_rfl) (Imp.of_eq (by rw[hb1])) ?_
 refine Oy b1 (fun c1=>?_) (fun c1=>?_)
 ·refine Fd 31 (a:=.bool b1) (.bool true) (by kernel_rfl) (Imp.of_eq (by rw[c1])) ?_
  refine Au 4 [] [1,2,3,35] [] hk0 v0 c0 ?_
  refine G8 (by kernel_rfl) ?_
  refine Ab [] [6,7] ?_
  refine Ag ?_
  refine RK wR [.nils,(.int .i64 69)] ?_
  subst hb1
  simp only[Ak]
  rw[show Ap Aa st a b=([],69) from by unfold Ap;rw[if_pos (.inl c1)]]
  exact(Imp.tups (ImpL.cons Imp.nil (ImpL.cons Imp.refl ImpL.nil))).same
 ·refine Fd 31 (a:=.bool b1) (.bool false) (by kernel_rfl) (Imp.of_eq (by rw[c1])) ?_
  refine B2 2 4 [] [1,2,3,31,32,33] [] hk0 v0 c0 ?_
  refine Jt (s':=[(1,(Ah a)),(2,(Ah b)),(3,(.fp (.agg [(.fp (Bx st))]))),(31,(.bool false)),(32,(Ah b)),(33,(.fn 81 [] [(.fp (.agg [(.fp (Bx st))]))])),(34,(.bool (b.any (Ea st))))]) (al:=[(Ah b),(.fn 81 [] [(.fp (.agg [(.fp (Bx st))]))])]) (al':=[(Ah b),(.fn 81 [] [(.fp (.agg [(.fp (Bx st))]))])]) (h':=[]) (r:=(.bool (b.any (Ea st)))) (by kernel_rfl) (by exact Rd) (by kernel_rfl) (by kernel_rfl) ((Qv b (.fn 81 [] [(.fp (.agg [(.fp (Bx st))]))]) (Ea st) (by omega) (fun j hj=>Q0a st _)).of_args (ImpL.cons Imp.refl (ImpL.cons (Imp.clo (by kernel_rfl)) ImpL.nil))) rfl (by kernel_rfl) ?_
  refine Au 7 [] [1,2,3,35] [] hk0 v0 c0 ?_
  refine Bd (q:=b.any (Ea st)) (by kernel_rfl) (fun c2=>?_) (fun c2=>?_)
  ·subst hb1
   try simp only[Am] at c2
   refine Ab [] [6,7] ?_
   refine Ag ?_
   refine RK wR [.nils,(.int .i64 69)] ?_
   simp only[Ak]
   rw[show Ap Aa st a b=([],69) from by unfold Ap;rw[if_pos (.inr c2)]]
   exact(Imp.tups (ImpL.cons Imp.nil (ImpL.cons Imp.refl ImpL.nil))).same
  ·subst hb1
   try simp only[Am] at c2
   have hra:=R3 (st:=st) (l:=a) (by rw[c1];simp)
   have hrb:=R3 (st:=st) (l:=b) (by rw[c2];simp)
   have hcr:=Q0r (b:=a) hrb
   have hgr:=Q0r (b:=b) hra
   have hur:=Q66 hcr hgr
   refine Ai ?_
   refine Af [] [3,9,10] [] (hk 2 Oq (Oh b a (by omega) (by first|omega|simp))<|hk 5 Oq (Oh a b (by omega) (by first|omega|simp))<|hk0) v0 c0 ?_
   refine Af [] [3,9,10,11] [] (hk 1 Q37 (Yx st hi.1 hi.2)<|hk0) v0 c0 ?_
   refine Af [] [3,9,10,11,12] [(0,11)] hk0 v0 c0 ?_
   refine Ac ?_
   refine Af [] [3,9,10,11,12,46,47,48] [] (hk 2 U8 (Un (Ad b a) (Ad a b) (by omega) (by first|omega|simp))<|hk0) v0 c0 ?_
   refine Ay ?_
   refine Js 66 3 12 (y:=⟨[(3,(.fp (.agg [(.fp (Bx st))]))),(9,(Ah (Ad b a))),(10,(Ah (Ad a b))),(11,(.fp (.agg [(.fp (Be st))]))),(12,(.own 2)),(46,(Ah (A3 (Ad b a) (Ad a b)))),(47,(.int .i64 (((A3 (Ad b a) (Ad a b)).length:Int)))),(48,(.int .i64 0))],[(2,(.grow [] 66 3))],3⟩) (by kernel_rfl) (by kernel_rfl) ?_
   refine Bz (fun g y=>∃(i:Nat),i≤(A3 (Ad b a) (Ad a b)).length∧y=⟨[(3,(.fp (.agg [(.fp (Bx st))]))),(9,(Ah (Ad b a))),(10,(Ah (Ad a b))),(11,(.fp (.agg [(.fp (Be st))]))),(12,(.own 2)),(46,(Ah (A3 (Ad b a) (Ad a b)))),(47,(.int .i64 (((A3 (Ad b a) (Ad a b)).length:Int)))),(48,(.int .i64 ((i:Int))))],[(2,(.grow ((((A3 (Ad b a) (Ad a b)).take i).map (A2 Aa st (Ad b a) (Ad a b))).map A0) 66 3))],3⟩∧g=(A3 (Ad b a) (Ad a b)).length-i) [3,9,10,11,12,46,47,48] 3 _ (by omega) ⟨0,(by omega),(by kernel_rfl),rfl⟩ ?_
   rintro g1 y1 ⟨i,f1_1,rfl,rfl⟩
   refine Ab [] [3,9,10,11,12,46,47,48,49] ?_
   refine Ac ?_
   refine A5 (p:=(i:Int) < ((A3 (Ad b a) (Ad a b)).length:Int)) (by kernel_rfl) (fun c3=>?_) (fun c3=>?_)
   ·have hui:=hur i (by omega)
    have hpl:=Kz (hi.2 (nth (A3 (Ad b a) (Ad a b)) i).toNat (by omega))
    refine Ai ?_
    refine Ac ?_
    refine Ay ?_
    refine Af [] [3,9,10,11,12,14,46,47,48] [] hk0 v0 (cc 0 (p:=(0≤(i:Int)∧i < (A3 (Ad b a) (Ad a b)).length)) (by omega)<|c0) ?_
    refine Af [] [3,9,10,11,12,14,15,46,47,48] [(0,14),(9,15)] (hk 2 (al:=[(.fp (Bx st)),(.int .i64 (nth (A3 (Ad b a) (Ad a b)) i))]) Lf ((Lq st (nth (A3 (Ad b a) (Ad a b)) i).toNat (by omega) (hi.2 _ (by omega))).of_args (ImpL.cons Imp.refl (ImpL.cons (Imp.of_eq (congrArg (AV.int .i64) (Je hui.1))) ImpL.nil)))<|hk0) v0 c0 ?_
    refine Ab [] [3,9,10,11,12,14,15,18,46,47,48] ?_
    refine Ab [] [3,9,10,11,12,14,15,18,19,46,47,48] ?_
    refine Ac ?_
    refine Af [] [3,9,10,11,12,14,15,18,19,46,47,48,64] [] (hk 2 U5 ((Vu (Ad b a) (nth (A3 (Ad b a) (Ad a b)) i) (by omega)).to (Same.of_eq (by rw[Q5l])))<|hk0) v0 c0 ?_
    refine A5 (p:=nth (A3 (Ad b a) (Ad a b)) i∈(Ad b a)) (by kernel_rfl) (fun c4=>?_) (fun c4=>?_)
    ·refine Ab [] [3,9,10,11,12,15,18,19,46,47,48] ?_
     refine Ac ?_
     refine Af [] [3,9,10,11,12,15,19,46,47,48] [] (hk 2 (al:=[(Ah (Ad a b)),(.int .i64 (-1)),(.fn 82 [] [(.fp (.agg [(.fp (Bx st))])),(.fp (Av ((nth st.all ((nth (A3 (Ad b a) (Ad a b)) i).toNat)).1)))])]) U4 ((Uw (Ad a b) (.fn 82 [] [(.fp (.agg [(.fp (Bx st))])),(.fp (Av ((nth st.all ((nth (A3 (Ad b a) (Ad a b)) i).toNat)).1)))]) (Ce st (nth (A3 (Ad b a) (Ad a b)) i)) (by omega) (fun j hj=>Q0p st hi (nth (A3 (Ad b a) (Ad a b)) i) _ (hgr j hj))).of_args (ImpL.cons Imp.refl (ImpL.cons Imp.refl (ImpL.cons (Imp.clo (by kernel_rfl)) ImpL.nil))))<|hk0) v0 c0 ?_
     refine Ab [] [3,9,10,11,12,15,19,46,47,48,72] ?_
     refine A5 (p:=0≤(Bw (Ce st (nth (A3 (Ad b a) (Ad a b)) i)) (Ad a b))) (by kernel_rfl) (fun c5=>?_) (fun c5=>?_)
     ·have hfo:=Q2j hgr c5
      have hpo:=Kz (hi.2 (Bw (Ce st (nth (A3 (Ad b a) (Ad a b)) i)) (Ad a b)).toNat (by omega))
      have hcm:=Vz st.kind (nth st.all (nth (A3 (Ad b a) (Ad a b)) i).toNat).1.evr (nth st.all (Bw (Ce st (nth (A3 (Ad b a) (Ad a b)) i)) (Ad a b)).toNat).1.evr
      unfold Sgn at hcm
      refine Af [] [3,9,10,11,12,15,19,20,46,47,48] [(10,20)] (hk 3 (al:=[(.fp (Bx st)),(.int .i64 ((Bw (Ce st (nth (A3 (Ad b a) (Ad a b)) i)) (Ad a b))))]) Lf ((Lq st (Bw (Ce st (nth (A3 (Ad b a) (Ad a b)) i)) (Ad a b)).toNat (by omega) (hi.2 _ (by omega))).of_args (ImpL.cons Imp.refl (ImpL.cons (Imp.of_eq (congrArg (AV.int .i64) (Je hfo.1))) ImpL.nil)))<|hk0) v0 c0 ?_
      refine Cr [] [3,9,10,11,12,19,23,46,47,48] [] (hk 1 Q29 (Q6t st)<|hk 6 X4g (X62 st.kind (((nth st.all ((nth (A3 (Ad b a) (Ad a b)) i).toNat)).1).evr) (((nth st.all ((Bw (Ce st (nth (A3 (Ad b a) (Ad a b)) i)) (Ad a b)).toNat)).1).evr) (by omega) (by omega))<|hk0) v0 c0 ?_
      refine An ?_
      refine Au (CS:=[(2,(-9223372036854775808≤((Dv st.kind (((nth st.all ((nth (A3 (Ad b a) (Ad a b)) i).toNat)).1).evr) (((nth st.all ((Bw (Ce st (nth (A3 (Ad b a) (Ad a b)) i)) (Ad a b)).toNat)).1).evr)).1)+1∧((Dv st.kind (((nth st.all ((nth (A3 (Ad b a) (Ad a b)) i).toNat)).1).evr) (((nth st.all ((Bw (Ce st (nth (A3 (Ad b a) (Ad a b)) i)) (Ad a b)).toNat)).1).evr)).1)+1≤9223372036854775807)),(3,(0≤((Dv st.kind (((nth st.all ((nth (A3 (Ad b a) (Ad a b)) i).toNat)).1).evr) (((nth st.all ((Bw (Ce st (nth (A3 (Ad b a) (Ad a b)) i)) (Ad a b)).toNat)).1).evr)).1)+1∧(((Dv st.kind (((nth st.all ((nth (A3 (Ad b a) (Ad a b)) i).toNat)).1).evr) (((nth st.all ((Bw (Ce st (nth (A3 (Ad b a) (Ad a b)) i)) (Ad a b)).toNat)).1).evr)).1)+1).toNat < [4,5,3].length))]) 0 [] [3,9,10,11,12,19,46,47,48] [] (hk 0 X4f X2r<|hk0) v0 (by refine cc _ ?_<|cc _ ?_ c0<;>(intros;simp_all;omega)) ?_
      refine Af [] [3,9,10,11,12,46,47,48] [] hk0 v0 (cc 3 (p:=((((((A3 (Ad b a) (Ad a b)).take i).map (A2 Aa st (Ad b a) (Ad a b))).map A0).length+1)*24≤140737488355328)) (by(simp;omega))<|c0) ?_
      refine Bp ?_
      refine An ?_
      refine Au 0 [] [3,9,10,11,12,46,47,48] [] hk0 v0 (cc 0 (p:=(-9223372036854775808≤(i:Int)+1∧(i:Int)+1≤9223372036854775807)) (by omega)<|c0) ?_
      refine⟨by kernel_rfl,_,?_,i+1,?_,(Eq.trans (b:=(⟨[(3,(.fp (.agg [(.fp (Bx st))]))),(9,(Ah (Ad b a))),(10,(Ah (Ad a b))),(11,(.fp (.agg [(.fp (Be st))]))),(12,(.own 2)),(46,(Ah (A3 (Ad b a) (Ad a b)))),(47,(.int .i64 (((A3 (Ad b a) (Ad a b)).length:Int)))),(48,(.int .i64 ((i:Int)+1)))],[(2,(.grow (((((A3 (Ad b a) (Ad a b)).take i).map (A2 Aa st (Ad b a) (Ad a b))).map A0)++([(.agg [(.int .i64 (nth [4,5,3] ((((Dv st.kind (((nth st.all ((nth (A3 (Ad b a) (Ad a b)) i).toNat)).1).evr) (((nth st.all ((Bw (Ce st (nth (A3 (Ad b a) (Ad a b)) i)) (Ad a b)).toNat)).1).evr)).1)+1).toNat))),(.int .i64 (nth (A3 (Ad b a) (Ad a b)) i)),(.int .i64 ((Bw (Ce st (nth (A3 (Ad b a) (Ad a b)) i)) (Ad a b))))])]:List AV)) 66 3))],3⟩:St)) (by kernel_rfl) (by rw[No (x:=(nth [4,5,3] ((Dv st.kind (nth st.all (nth (A3 (Ad b a) (Ad a b)) i).toNat).1.evr (nth st.all (Bw (Ce st (nth (A3 (Ad b a) (Ad a b)) i)) (Ad a b)).toNat).1.evr).1+1).toNat,(nth (A3 (Ad b a) (Ad a b)) i),(Bw (Ce st (nth (A3 (Ad b a) (Ad a b)) i)) (Ad a b)))) (f:=(A2 Aa st (Ad b a) (Ad a b))) (by omega) (by unfold A2 Gl;rw[if_pos c4,if_pos c5];rfl)]<;>kernel_rfl)),rfl⟩
      ·omega
      ·omega
     ·refine Ai ?_
      refine Af [] [3,9,10,11,12,46,47,48] [] hk0 v0 (cc 3 (p:=((((((A3 (Ad b a) (Ad a b)).take i).map (A2 Aa st (Ad b a) (Ad a b))).map A0).length+1)*24≤140737488355328)) (by(simp;omega))<|c0) ?_
      refine Bp ?_
      refine An ?_
      refine Au 0 [] [3,9,10,11,12,46,47,48] [] hk0 v0 (cc 0 (p:=(-9223372036854775808≤(i:Int)+1∧(i:Int)+1≤9223372036854775807)) (by omega)<|c0) ?_
      refine⟨by kernel_rfl,_,?_,i+1,?_,(Eq.trans (b:=(⟨[(3,(.fp (.agg [(.fp (Bx st))]))),(9,(Ah (Ad b a))),(10,(Ah (Ad a b))),(11,(.fp (.agg [(.fp (Be st))]))),(12,(.own 2)),(46,(Ah (A3 (Ad b a) (Ad a b)))),(47,(.int .i64 (((A3 (Ad b a) (Ad a b)).length:Int)))),(48,(.int .i64 ((i:Int)+1)))],[(2,(.grow (((((A3 (Ad b a) (Ad a b)).take i).map (A2 Aa st (Ad b a) (Ad a b))).map A0)++([(.agg [(.int .i64 1),(.int .i64 (nth (A3 (Ad b a) (Ad a b)) i)),(.int .i64 ((Bw (Ce st (nth (A3 (Ad b a) (Ad a b)) i)) (Ad a b))))])]:List AV)) 66 3))],3⟩:St)) (by kernel_rfl) (by rw[No (x:=(1,(nth (A3 (Ad b a) (Ad a b)) i),(Bw (Ce st (nth (A3 (Ad b a) (Ad a b)) i)) (Ad a b)))) (f:=(A2 Aa st (Ad b a) (Ad a b))) (by omega) (by unfold A2 Gl;rw[if_pos c4,if_neg c5])]<;>kernel_rfl)),rfl⟩
      ·omega
      ·omega
    ·refine Ai ?_
     refine Ab [] [3,9,10,11,12,14,18,19,46,47,48] ?_
     refine Ac ?_
     refine Af [] [3,9,10,11,12,14,19,46,47,48] [] (hk 2 (al:=[(Ah (Ad b a)),(.int .i64 (-1)),(.fn 82 [] [(.fp (.agg [(.fp (Bx st))])),(.fp (Av ((nth st.all ((nth (A3 (Ad b a) (Ad a b)) i).toNat)).1)))])]) U4 ((Uw (Ad b a) (.fn 82 [] [(.fp (.agg [(.fp (Bx st))])),(.fp (Av ((nth st.all ((nth (A3 (Ad b a) (Ad a b)) i).toNat)).1)))]) (Ce st (nth (A3 (Ad b a) (Ad a b)) i)) (by omega) (fun j hj=>Q0p st hi (nth (A3 (Ad b a) (Ad a b)) i) _ (hcr j hj))).of_args (ImpL.cons Imp.refl (ImpL.cons Imp.refl (ImpL.cons (Imp.clo (by kernel_rfl)) ImpL.nil))))<|hk0) v0 c0 ?_
     refine Ab [] [3,9,10,11,12,14,19,46,47,48,108] ?_
     refine A5 (p:=(Bw (Ce st (nth (A3 (Ad b a) (Ad a b)) i)) (Ad b a)) < 0) (by kernel_rfl) (fun c6=>?_) (fun c6=>?_)
     ·refine Ab [] [3,9,10,11,12,14,19,46,47,48] ?_
      refine An ?_
      refine Au 0 [] [3,9,10,11,12,19,46,47,48] [] (hk 2 (al:=[(Ah (Ad b a)),(.int .i64 (-1)),(.fn 87 [] [(.fp (.agg [(.fp (Bx st))])),(.fp (.agg [(.fp (Be st))])),(.fp (.agg [(.int .i64 (nth (A3 (Ad b a) (Ad a b)) i))]))])]) U4 ((Uw (Ad b a) (.fn 87 [] [(.fp (.agg [(.fp (Bx st))])),(.fp (.agg [(.fp (Be st))])),(.fp (.agg [(.int .i64 (nth (A3 (Ad b a) (Ad a b)) i))]))]) (Em Aa st (nth (A3 (Ad b a) (Ad a b)) i)) (by omega) (fun j hj=>X1g st hi (nth (A3 (Ad b a) (Ad a b)) i) _ (hcr j hj))).of_args (ImpL.cons Imp.refl (ImpL.cons Imp.refl (ImpL.cons (Imp.clo (by kernel_rfl)) ImpL.nil))))<|hk0) v0 c0 ?_
      refine Ac ?_
      refine Ab [] [3,9,10,11,12,19,46,47,48,116] ?_
      refine A5 (p:=(Bw (Em Aa st (nth (A3 (Ad b a) (Ad a b)) i)) (Ad b a)) < 0) (by kernel_rfl) (fun c7=>?_) (fun c7=>?_)
      ·refine An ?_
       refine Ei [] [3,9,10,11,12,19,46,47,48] ?_
       refine An ?_
       refine Au 0 [] [3,9,10,11,12,46,47,48] [] hk0 v0 (cc 3 (p:=((((((A3 (Ad b a) (Ad a b)).take i).map (A2 Aa st (Ad b a) (Ad a b))).map A0).length+1)*24≤140737488355328)) (by(simp;omega))<|c0) ?_
       refine An ?_
       refine Au 0 [] [3,9,10,11,12,46,47,48] [] hk0 v0 (cc 0 (p:=(-9223372036854775808≤(i:Int)+1∧(i:Int)+1≤9223372036854775807)) (by omega)<|c0) ?_
       refine⟨by kernel_rfl,_,?_,i+1,?_,(Eq.trans (b:=(⟨[(3,(.fp (.agg [(.fp (Bx st))]))),(9,(Ah (Ad b a))),(10,(Ah (Ad a b))),(11,(.fp (.agg [(.fp (Be st))]))),(12,(.own 2)),(46,(Ah (A3 (Ad b a) (Ad a b)))),(47,(.int .i64 (((A3 (Ad b a) (Ad a b)).length:Int)))),(48,(.int .i64 ((i:Int)+1)))],[(2,(.grow (((((A3 (Ad b a) (Ad a b)).take i).map (A2 Aa st (Ad b a) (Ad a b))).map A0)++([(.agg [(.int .i64 2),(.int .i64 (nth (A3 (Ad b a) (Ad a b)) i)),(.int .i64 ((Bw (Em Aa st (nth (A3 (Ad b a) (Ad a b)) i)) (Ad b a))))])]:List AV)) 66 3))],3⟩:St)) (by kernel_rfl) (by rw[No (x:=(2,(nth (A3 (Ad b a) (Ad a b)) i),(Bw (Em Aa st (nth (A3 (Ad b a) (Ad a b)) i)) (Ad b a)))) (f:=(A2 Aa st (Ad b a) (Ad a b))) (by omega) (by unfold A2 goS;rw[if_neg c4,if_neg (by omega),if_neg (by omega)])]<;>kernel_rfl)),rfl⟩
       ·omega
       ·omega
      ·refine Ai ?_
       refine An ?_
       refine Au 0 [] [3,9,10,11,12,46,47,48] [] hk0 v0 (cc 3 (p:=((((((A3 (Ad b a) (Ad a b)).take i).map (A2 Aa st (Ad b a) (Ad a b))).map A0).length+1)*24≤140737488355328)) (by(simp;omega))<|c0) ?_
       refine An ?_
       refine Au 0 [] [3,9,10,11,12,46,47,48] [] hk0 v0 (cc 0 (p:=(-9223372036854775808≤(i:Int)+1∧(i:Int)+1≤9223372036854775807)) (by omega)<|c0) ?_
       refine⟨by kernel_rfl,_,?_,i+1,?_,(Eq.trans (b:=(⟨[(3,(.fp (.agg [(.fp (Bx st))]))),(9,(Ah (Ad b a))),(10,(Ah (Ad a b))),(11,(.fp (.agg [(.fp (Be st))]))),(12,(.own 2)),(46,(Ah (A3 (Ad b a) (Ad a b)))),(47,(.int .i64 (((A3 (Ad b a) (Ad a b)).length:Int)))),(48,(.int .i64 ((i:Int)+1)))],[(2,(.grow (((((A3 (Ad b a) (Ad a b)).take i).map (A2 Aa st (Ad b a) (Ad a b))).map A0)++([(.agg [(.int .i64 7),(.int .i64 (nth (A3 (Ad b a) (Ad a b)) i)),(.int .i64 ((Bw (Em Aa st (nth (A3 (Ad b a) (Ad a b)) i)) (Ad b a))))])]:List AV)) 66 3))],3⟩:St)) (by kernel_rfl) (by rw[No (x:=(7,(nth (A3 (Ad b a) (Ad a b)) i),(Bw (Em Aa st (nth (A3 (Ad b a) (Ad a b)) i)) (Ad b a)))) (f:=(A2 Aa st (Ad b a) (Ad a b))) (by omega) (by unfold A2 goS;rw[if_neg c4,if_neg (by omega),if_pos (by omega)])]<;>kernel_rfl)),rfl⟩
       ·omega
       ·omega
     ·refine Ai ?_
      refine Ac ?_
      refine Ab [] [3,9,10,11,12,19,46,47,48,116] ?_
      refine A5 (p:=(Bw (Ce st (nth (A3 (Ad b a) (Ad a b)) i)) (Ad b a)) < 0) (by kernel_rfl) (fun c8=>?_) (fun c8=>?_)
      ·exfalso;omega
      ·refine Ai ?_
       refine An ?_
       refine Au 0 [] [3,9,10,11,12,46,47,48] [] hk0 v0 (cc 3 (p:=((((((A3 (Ad b a) (Ad a b)).take i).map (A2 Aa st (Ad b a) (Ad a b))).map A0).length+1)*24≤140737488355328)) (by(simp;omega))<|c0) ?_
       refine An ?_
       refine Au 0 [] [3,9,10,11,12,46,47,48] [] hk0 v0 (cc 0 (p:=(-9223372036854775808≤(i:Int)+1∧(i:Int)+1≤9223372036854775807)) (by omega)<|c0) ?_
       refine⟨by kernel_rfl,_,?_,i+1,?_,(Eq.trans (b:=(⟨[(3,(.fp (.agg [(.fp (Bx st))]))),(9,(Ah (Ad b a))),(10,(Ah (Ad a b))),(11,(.fp (.agg [(.fp (Be st))]))),(12,(.own 2)),(46,(Ah (A3 (Ad b a) (Ad a b)))),(47,(.int .i64 (((A3 (Ad b a) (Ad a b)).length:Int)))),(48,(.int .i64 ((i:Int)+1)))],[(2,(.grow (((((A3 (Ad b a) (Ad a b)).take i).map (A2 Aa st (Ad b a) (Ad a b))).map A0)++([(.agg [(.int .i64 6),(.int .i64 (nth (A3 (Ad b a) (Ad a b)) i)),(.int .i64 ((Bw (Ce st (nth (A3 (Ad b a) (Ad a b)) i)) (Ad b a))))])]:List AV)) 66 3))],3⟩:St)) (by kernel_rfl) (by rw[No (x:=(6,(nth (A3 (Ad b a) (Ad a b)) i),(Bw (Ce st (nth (A3 (Ad b a) (Ad a b)) i)) (Ad b a)))) (f:=(A2 Aa st (Ad b a) (Ad a b))) (by omega) (by unfold A2 goS;rw[if_neg c4,if_pos (by omega)])]<;>kernel_rfl)),rfl⟩
       ·omega
       ·omega
   ·refine Bp ?_
    refine Ab [] [6,7] ?_
    refine Ag ?_
    refine RK wR [(.row 3 ((((A3 (Ad b a) (Ad a b)).take i).map (A2 Aa st (Ad b a) (Ad a b))).map A0).length (fun ix=>((((A3 (Ad b a) (Ad a b)).take i).map (A2 Aa st (Ad b a) (Ad a b))).map A0).getD ix Br)),(.int .i64 0)] ?_
    rw[show i=(A3 (Ad b a) (Ad a b)).length from by omega,List.take_length]
    simp only[Ak]
    rw[show Ap Aa st a b=((A3 (Ad b a) (Ad a b)).map (A2 Aa st (Ad b a) (Ad a b)),0) from by rw[Kr hra hrb];rfl]
    exact(Imp.tups (ImpL.cons (Imp.list (f:=A0) (List.length_map _)) (ImpL.cons Imp.refl ImpL.nil))).same
theorem Y0f (a : List Int) (l : List Bq) (ha : a.length ≤ 2097152) (hl : l.length ≤ 2097152) :
  FnV Tryz.prog 29 [(Ah a),(Ae 3 A0 l)] (Ah (Al a l)):=by
 refine A8 [.tmp 4] Tryz.func29 rfl Tryz.ntmps29 rfl rfl (fun B F hF=>?_)
 refine Ab [] [0,1] ?_
 refine Af [] [1,5] [] (hk 1 Rb (Qx a (by omega))<|hk0) v0 c0 ?_
 refine Ac ?_
 refine Ab [] [5,10,11,12] ?_
 refine Ay ?_
 refine Bz (fun g y=>∃(i:Nat),i≤l.length∧y=⟨[(5,(Ah (Al a (l.take i)))),(10,(Ae 3 A0 l)),(11,(.int .i64 ((l.length:Int)))),(12,(.int .i64 ((i:Int))))],[],0⟩∧g=l.length-i) [5,10,11,12] 0 _ (by omega) ⟨0,(by omega),(by kernel_rfl),rfl⟩ ?_
 rintro g1 y1 ⟨i,f1_1,rfl,rfl⟩
 have hal:=O1 a (l.take i)
 have htl:=List.length_take_le i l
 refine Ab [] [5,10,11,12,13] ?_
 refine Ac ?_
 refine A5 (p:=(i:Int) < (l.length:Int)) (by kernel_rfl) (fun c1=>?_) (fun c1=>?_)
 ·refine Ai ?_
  refine Ac ?_
  refine Ay ?_
  refine Af [] [5,7,10,11,12] [] hk0 v0 (cc 0 (p:=(0≤(i:Int)∧i < l.length)) (by omega)<|c0) ?_
  refine Af [] [5,7,10,11,12,17] [(0,7)] hk0 v0 c0 ?_
  refine Ay ?_
  refine Dm (fun y=>∃(v:Bool),v=Fa (nth l i).1∧y=⟨[(5,(Ah (Al a (l.take i)))),(7,(.fp (.agg [(.int .i64 ((nth l i).1)),(.int .i64 ((nth l i).2.1)),(.int .i64 ((nth l i).2.2))]))),(10,(Ae 3 A0 l)),(11,(.int .i64 ((l.length:Int)))),(12,(.int .i64 ((i:Int)))),(17,(.int .i64 ((nth l i).1))),(18,(.bool v))],[],1⟩) [5,7,10,11,12,17,18] 1 (by omega) ?_ ?_
  ·refine Ab [] [5,7,10,11,12,17,18] ?_
   refine A5 (p:=((nth l i).1)=1) (by kernel_rfl) (fun c2=>?_) (fun c2=>?_)
   ·refine Ai ?_
    refine⟨by kernel_rfl,(decide (((nth l i).1)=1)),?_,(by kernel_rfl)⟩
    unfold Fa
    simp_all
   ·refine Ab [] [5,7,10,11,12,17,18] ?_
    refine A5 (p:=((nth l i).1)=3) (by kernel_rfl) (fun c3=>?_) (fun c3=>?_)
    ·refine Ai ?_
     refine⟨by kernel_rfl,(decide (((nth l i).1)=3)),?_,(by kernel_rfl)⟩
     unfold Fa
     simp_all
    ·refine Ab [] [5,7,10,11,12,17,18] ?_
     refine A5 (p:=((nth l i).1)=4) (by kernel_rfl) (fun c4=>?_) (fun c4=>?_)
     ·refine Ai ?_
      refine⟨by kernel_rfl,(decide (((nth l i).1)=4)),?_,(by kernel_rfl)⟩
      unfold Fa
      simp_all
     ·refine An ?_
      refine Ei [] [5,7,10,11,12,17,18] ?_
      refine⟨by kernel_rfl,(decide (((nth l i).1)=5)),?_,(by kernel_rfl)⟩
      unfold Fa
      simp_all
  ·rintro y1 ⟨v,jv,rfl⟩
   refine Bd (q:=v) (by kernel_rfl) (fun c5=>?_) (fun c5=>?_)
   ·try simp only[Am] at c5
    refine An ?_
    refine Au 0 [] [5,10,11,12] [(4,26)] (hk 4 U8 (Un (Al a (l.take i)) [(nth l i).2.1] (by omega) (by first|omega|simp))<|hk0) (vk 4 26 (b:=(Ah [(nth l i).2.1])) (Imp.list (f:=AV.int .i64) rfl)<|v0) c0 ?_
    refine An ?_
    refine Au 0 [] [5,10,11,12] [] hk0 v0 (cc 0 (p:=(-9223372036854775808≤(i:Int)+1∧(i:Int)+1≤9223372036854775807)) (by omega)<|c0) ?_
    refine⟨by kernel_rfl,_,?_,i+1,?_,(Eq.trans (b:=(⟨[(5,(Ah (A3 (Al a (l.take i)) [(nth l i).2.1]))),(10,(Ae 3 A0 l)),(11,(.int .i64 ((l.length:Int)))),(12,(.int .i64 ((i:Int)+1)))],[],0⟩:St)) (by kernel_rfl) (by rw[V9 (by omega),F7,if_pos (by rw[←jv];exact c5)]<;>kernel_rfl)),rfl⟩
    ·omega
    ·omega
   ·try simp only[Am] at c5
    refine Dm (fun y=>∃(u:Bool),u=E9 (nth l i).1∧y=⟨[(5,(Ah (Al a (l.take i)))),(7,(.fp (.agg [(.int .i64 ((nth l i).1)),(.int .i64 ((nth l i).2.1)),(.int .i64 ((nth l i).2.2))]))),(10,(Ae 3 A0 l)),(11,(.int .i64 ((l.length:Int)))),(12,(.int .i64 ((i:Int)))),(28,(.bool u))],[],1⟩) [5,7,10,11,12,28] 1 (by omega) ?_ ?_
    ·refine Ab [] [5,7,10,11,12,17,28] ?_
     refine A5 (p:=((nth l i).1)=2) (by kernel_rfl) (fun c6=>?_) (fun c6=>?_)
     ·refine Ai ?_
      refine⟨by kernel_rfl,(decide (((nth l i).1)=2)),?_,(by kernel_rfl)⟩
      unfold E9
      simp_all
     ·refine Ab [] [5,7,10,11,12,17,28] ?_
      refine A5 (p:=((nth l i).1)=6) (by kernel_rfl) (fun c7=>?_) (fun c7=>?_)
      ·refine Ai ?_
       refine⟨by kernel_rfl,(decide (((nth l i).1)=6)),?_,(by kernel_rfl)⟩
       unfold E9
       simp_all
      ·refine An ?_
       refine Ei [] [5,7,10,11,12,28] ?_
       refine⟨by kernel_rfl,(decide (((nth l i).1)=7)),?_,(by kernel_rfl)⟩
       unfold E9
       simp_all
    ·rintro y2 ⟨u,ju,rfl⟩
     refine Bd (q:=u) (by kernel_rfl) (fun c8=>?_) (fun c8=>?_)
     ·try simp only[Am] at c8
      refine An ?_
      refine Au 0 [] [5,10,11,12] [(4,35)] (hk 4 Oq (Oh (Al a (l.take i)) [(nth l i).2.1] (by omega) (by first|omega|simp))<|hk0) (vk 4 35 (b:=(Ah [(nth l i).2.1])) (Imp.list (f:=AV.int .i64) rfl)<|v0) c0 ?_
      refine An ?_
      refine Au 0 [] [5,10,11,12] [] hk0 v0 (cc 0 (p:=(-9223372036854775808≤(i:Int)+1∧(i:Int)+1≤9223372036854775807)) (by omega)<|c0) ?_
      refine⟨by kernel_rfl,_,?_,i+1,?_,(Eq.trans (b:=(⟨[(5,(Ah (Ad (Al a (l.take i)) [(nth l i).2.1]))),(10,(Ae 3 A0 l)),(11,(.int .i64 ((l.length:Int)))),(12,(.int .i64 ((i:Int)+1)))],[],0⟩:St)) (by kernel_rfl) (by rw[V9 (by omega),F7,if_neg (by rw[←jv,c5];simp),if_pos (by rw[←ju];exact c8)]<;>kernel_rfl)),rfl⟩
      ·omega
      ·omega
     ·try simp only[Am] at c8
      refine Ai ?_
      refine An ?_
      refine Au 0 [] [5,10,11,12] [] hk0 v0 (cc 0 (p:=(-9223372036854775808≤(i:Int)+1∧(i:Int)+1≤9223372036854775807)) (by omega)<|c0) ?_
      refine⟨by kernel_rfl,_,?_,i+1,?_,(Eq.trans (b:=(⟨[(5,(Ah (Al a (l.take i)))),(10,(Ae 3 A0 l)),(11,(.int .i64 ((l.length:Int)))),(12,(.int .i64 ((i:Int)+1)))],[],0⟩:St)) (by kernel_rfl) (by rw[V9 (by omega),F7,if_neg (by rw[←jv,c5];simp),if_neg (by rw[←ju,c8];simp)]<;>kernel_rfl)),rfl⟩
      ·omega
      ·omega
 ·refine Bp ?_
  refine Ab [] [4] ?_
  refine Ag ?_
  refine RK wR [(Ah (Al a (l.take i)))] ?_
  exact Same.of_eq (by simp only[Ak];rw[show i=l.length from by omega,List.take_length])
end Sv
end
section
open Go Go.RowKit
namespace Sv
attribute [local irreducible] SW SO Bs
set_option maxHeartbeats 400000
set_option maxRecDepth 100000
theorem Q3d:As Tryz.prog 25:=Az Tryz.func25 (by kernel_rfl) rfl
theorem Q7q {x y:Bq} (h1:x.1=y.1) (h2:x.2.1=y.2.1) (h3:x.2.2=y.2.2):x=y:=Prod.ext h1 (Prod.ext h2 h3)
theorem Q0b {a:List Bq} {i:Nat} (h:i < a.length):nth a i=a[i]:=by simp[nth,h]
theorem Q8f {a b:List Bq} (hl:a.length=b.length) (h:∀j,j < a.length→nth a j=nth b j):decide (a=b)=true:=decide_eq_true (List.ext_getElem hl fun j h1 h2=>by
 have:=h j h1
 rwa [Q0b h1,Q0b h2] at this)
theorem Q8g {a b:List Bq} {i:Nat} (h:¬nth a i=nth b i):decide (a=b)=false:=decide_eq_false fun e=>h (by rw[e])
theorem Q8h {a b:List Bq} (h:¬a.length=b.length):decide (a=b)=false:=decide_eq_false fun e=>h (by rw[e])
theorem Yi (a b : List Bq) (ha : a.length ≤ 4611686018427) :
  FnV Tryz.prog 25 [(Ae 3 A0 a),(Ae 3 A0 b)] (.bool (decide (a=b))):=by
 refine A8 [.tmp 4] Tryz.func25 rfl Tryz.ntmps25 rfl rfl (fun B F hF=>?_)
 refine Ab [] [0,1] ?_
 refine Ac ?_
 refine Ab [] [0,1,10] ?_
 refine Da (p:=(a.length:Int)=(b.length:Int)) (by kernel_rfl) (fun c1=>?_) (fun c1=>?_)
 ·refine Ab [] [4] ?_
  refine Ag ?_
  refine RK wR [(.bool false)] ?_
  exact Same.of_eq (by rw[Q8h (by omega)];rfl)
 ·refine Ai ?_
  refine Ac ?_
  refine Ab [] [0,1,5] ?_
  refine Ay ?_
  refine Bz (fun g y=>∃(i:Nat),i≤a.length∧(∀j,j < i→nth a j=nth b j)∧y=⟨[(0,(Ae 3 A0 a)),(1,(Ae 3 A0 b)),(5,(.int .i64 ((i:Int))))],[],0⟩∧g=a.length-i) [0,1,5] 0 _ (by omega) ⟨0,(by omega),(by exact fun j hj=>by omega),(by kernel_rfl),rfl⟩ ?_
  rintro g1 y1 ⟨i,f1_1,f1_2,rfl,rfl⟩
  refine Ac ?_
  refine Ab [] [0,1,5,14] ?_
  refine A5 (p:=(i:Int) < (a.length:Int)) (by kernel_rfl) (fun c2=>?_) (fun c2=>?_)
  ·refine Ai ?_
   refine Ac ?_
   refine Ay ?_
   refine Ac ?_
   refine Kk (by kernel_rfl) (fun F1 hF1=>?_)
   refine Dh (fuel:=1) [] [0,1,2,3,4,5,6,7] [0,1,5,20,24] (hold (p:=(0≤(i:Int)∧i < a.length)∧(0≤(i:Int)∧i < b.length)) (by omega)) ?_
   refine Ha (fuel:=0) 8 (by kernel_rfl) ?_
   refine Dt (fuel:=0) 8 rfl ?_
   refine Pc (s':=[(0,(Ae 3 A0 a)),(1,(Ae 3 A0 b)),(5,(.int .i64 ((i:Int)))),(20,(.agg [(.int .i64 ((nth a i).1)),(.int .i64 ((nth a i).2.1)),(.int .i64 ((nth a i).2.2))])),(24,(.agg [(.int .i64 ((nth b i).1)),(.int .i64 ((nth b i).2.1)),(.int .i64 ((nth b i).2.2))])),(25,(.bool (!(decide ((nth a i).1=((nth b i).1))&&(decide ((nth a i).2.1=((nth b i).2.1))&&(decide ((nth a i).2.2=((nth b i).2.2))&&true))))))]) (.bool (!(decide ((nth a i).1=((nth b i).1))&&(decide ((nth a i).2.1=((nth b i).2.1))&&(decide ((nth a i).2.2=((nth b i).2.2))&&true))))) (by kernel_rfl) (Q7x (l:=[(.int .i64 ((nth a i).1)),(.int .i64 ((nth a i).2.1)),(.int .i64 ((nth a i).2.2))]) (m:=[(.int .i64 ((nth b i).1)),(.int .i64 ((nth b i).2.1)),(.int .i64 ((nth b i).2.2))]) (r:=decide ((nth a i).1=((nth b i).1))&&(decide ((nth a i).2.1=((nth b i).2.1))&&(decide ((nth a i).2.2=((nth b i).2.2))&&true))) (.inl (by kernel_rfl)) (.inl (by kernel_rfl)) (by kernel_rfl) (by kernel_rfl) (by kernel_rfl) (by kernel_rfl)) (by kernel_rfl) ?_
   refine Cd ⟨rfl,?_⟩
   refine A9 [0,1,5,25] ?_
   refine Ho (by kernel_rfl) ?_
   refine Bd (q:=!(decide ((nth a i).1=((nth b i).1))&&(decide ((nth a i).2.1=((nth b i).2.1))&&(decide ((nth a i).2.2=((nth b i).2.2))&&true)))) (by kernel_rfl) (fun c3=>?_) (fun c3=>?_)
   ·try simp only[Am] at c3
    refine Ab [] [4] ?_
    refine Ag ?_
    refine RK wR [(.bool false)] ?_
    exact Same.of_eq (by rw[Q8g (i:=i) (by intro e;rw[e] at c3;simp at c3)];rfl)
   ·try simp only[Am] at c3
    refine Ai ?_
    refine An ?_
    refine Au 0 [] [0,1,5] [] hk0 v0 (cc 1 (p:=(-9223372036854775808≤(i:Int)+1∧(i:Int)+1≤9223372036854775807)) (by omega)<|c0) ?_
    refine⟨by kernel_rfl,_,?_,i+1,?_,?_,(by kernel_rfl),rfl⟩
    ·omega
    ·omega
    ·intro j hj
     by_cases h:j=i
     ·subst h;exact Q7q (by simp_all) (by simp_all) (by simp_all)
     ·exact f1_2 j (by omega)
  ·refine Bp ?_
   refine Ab [] [4] ?_
   refine Ag ?_
   refine RK wR [(.bool true)] ?_
   exact Same.of_eq (by rw[Q8f (by omega) (fun j hj=>f1_2 j (by omega))];rfl)
end Sv
end
section
open Go Go.RowKit
namespace Sv
attribute [local irreducible] SW SO Bs
set_option maxHeartbeats 1000000
set_option maxRecDepth 100000
theorem Rg:As Tryz.prog 233:=Az Tryz.func233 (by kernel_rfl) rfl
theorem Q3f:As Tryz.prog 248:=Az Tryz.func248 (by kernel_rfl) rfl
theorem Vb:As Tryz.prog 230:=Az Tryz.func230 (by kernel_rfl) rfl
theorem Q3b:As Tryz.prog 252:=Az Tryz.func252 (by kernel_rfl) rfl
theorem Rf:As Tryz.prog 251:=Az Tryz.func251 (by kernel_rfl) rfl
theorem Q3c:As Tryz.prog 250:=Az Tryz.func250 (by kernel_rfl) rfl
theorem Q3e:As Tryz.prog 249:=Az Tryz.func249 (by kernel_rfl) rfl
theorem Ru (x y:Int):C7 (x-y) 0=C7 x y:=by
 unfold C7
 repeat' split
 all_goals omega
theorem Pj:∀a b:List UInt8,Lib.compareBytes a b=if Op.bytesLess a b=true then -1 else if Op.bytesLess b a=true then 1 else 0
 |[],[]=>rfl
 |[],_::_=>rfl
 |_::_,[]=>rfl
 |a::r,b::s=>by
  unfold Lib.compareBytes Op.bytesLess
  rw[Pj r s]
  by_cases h1:a < b
  ·simp[h1]
  ·by_cases h2:b < a
   ·have:¬a=b:=fun e=>by subst e;exact UInt8.lt_irrefl _ h2
    simp[h1,h2,this]
   ·have:a=b:=UInt8.le_antisymm (UInt8.not_lt.1 h2) (UInt8.not_lt.1 h1)
    subst this
    simp[h1]
theorem W5:∀{a b:List UInt8},Op.bytesLess a b=false→(!(Op.bytesLess a b||Hb a b))=Op.bytesLess b a:=by
 intro a b h
 rw[h,Bool.false_or,Ss]
 induction a generalizing b with
 |nil=>cases b<;>simp_all [Op.bytesLess]
 |cons x r ih =>
  cases b with
  |nil=>simp[Op.bytesLess]
  |cons y s =>
   unfold Op.bytesLess at h ⊢
   simp only[Bool.or_eq_false_iff,decide_eq_false_iff_not,Bool.and_eq_false_iff] at h
   by_cases e:x=y
   ·subst e
    have k:=ih (b:=s) (by simpa using h.2)
    simp only[List.cons.injEq,true_and]
    simp[k]
   ·have l : y < x := by
     rcases UInt8.lt_or_lt_of_ne e with q|q
     ·exact absurd q h.1
     ·exact q
    simp[l,e]
theorem W3 {x:List UInt8} (h:0 < (x.length:Int)) (k:((Aj x 0).toNat:Int)=48):Lib.trimLeftB (x.drop 1) 48=Lib.trimLeftB x 48:=by
 cases x with
 |nil=>simp at h
 |cons a r =>
  have e:a=48:=UInt8.toNat_inj.1 (by rw[show Aj (a::r) 0=a by simp[Aj]] at k;show a.toNat=48;omega)
  subst e
  simp[Lib.trimLeftB]
theorem W2 {x:List UInt8} (h:0 < (x.length:Int)→¬((Aj x 0).toNat:Int)=48):Lib.trimLeftB x 48=x:=by
 cases x with
 |nil=>rfl
 |cons a r =>
  have k:=h (by simp)
  have e:¬a=48:=fun e=>k (by subst e;rfl)
  simp[Lib.trimLeftB,e]
theorem X06 {c:UInt8} (h:Fp c=false):C9 c=true:=by unfold C9;rw[h];rfl
theorem X05 {c:UInt8} (h:Fp c=true):C9 c=false:=by unfold C9;rw[h];rfl
theorem Xm {x:List UInt8} (h:0 < x.length) (k:Fp (Aj x 0)=false):(x.drop 1).drop (Ar C9 (x.drop 1))=x.drop (Ar C9 x):=by
 cases x with
 |nil=>simp at h
 |cons a r =>
  have ha:Aj (a::r) 0=a:=by simp[Aj]
  rw[ha] at k
  unfold Ar
  simp[List.takeWhile_cons,X06 k]
theorem Q72 {x:List UInt8} (k:Fp (Aj x 0)=true):x.drop (Ar C9 x)=x:=by
 cases x with
 |nil=>rfl
 |cons a r =>
  have ha:Aj (a::r) 0=a:=by simp[Aj]
  rw[ha] at k
  unfold Ar
  simp[List.takeWhile_cons,X05 k]
theorem X2d {c:UInt8} (h:((B7 c=true∨Aq c=true)∨(c.toNat:Int)=126)∨(c.toNat:Int)=94):Fp c=true:=by
 unfold Fp
 rcases h with ((h|h)|h)|h
 ·simp[h]
 ·simp[h]
 ·simp[show c.toNat=126 by omega]
 ·simp[show c.toNat=94 by omega]
def Cg:Bool→UInt8→Bool
 |true=>Aq
 |false=>B7
def Hd (s:List UInt8):Bool:=!decide (s=[])&&!Aq (Aj s 0)
theorem P2 (n : Int) :
  FnV Tryz.prog 233 [(.int .i64 n)] (.int .i64 (C7 n 0)):=by
 refine A8 [.tmp 2] Tryz.func233 rfl Tryz.ntmps233 rfl rfl (fun B F hF=>?_)
 refine Ab [] [0] ?_
 refine Ac ?_
 refine Ab [] [0,4] ?_
 refine A5 (p:=n < 0) (by kernel_rfl) (fun c1=>?_) (fun c1=>?_)
 ·refine Ab [] [2] ?_
  refine Ag ?_
  refine RK wR [(.int .i64 (-1))] ?_
  exact Same.of_eq (by simp only[Ak];unfold C7;rw[if_pos (by assumption)])
 ·refine Ai ?_
  refine Ac ?_
  refine Ab [] [6] ?_
  refine A5 (p:=0 < n) (by kernel_rfl) (fun c2=>?_) (fun c2=>?_)
  ·refine Ab [] [2] ?_
   refine Ag ?_
   refine RK wR [(.int .i64 1)] ?_
   exact Same.of_eq (by simp only[Ak];unfold C7;rw[if_neg (by assumption),if_pos (by assumption)])
  ·refine Ai ?_
   refine Ab [] [2] ?_
   refine Ag ?_
   refine RK wR [(.int .i64 0)] ?_
   exact Same.of_eq (by simp only[Ak];unfold C7;rw[if_neg (by assumption),if_neg (by assumption)])
theorem Yg (a b : List UInt8) :
  FnV Tryz.prog 248 [(.str a),(.str b)] (.int .i64 (Lib.compareBytes a b)):=by
 refine A8 [.tmp 4] Tryz.func248 rfl Tryz.ntmps248 rfl rfl (fun B F hF=>?_)
 refine Ab [] [0,1] ?_
 refine Ac ?_
 refine Ab [] [0,1,7] ?_
 refine Bd (q:=Op.bytesLess a b) (by kernel_rfl) (fun c1=>?_) (fun c1=>?_)
 ·try simp only[Am] at c1
  refine Ab [] [4] ?_
  refine Ag ?_
  refine RK wR [(.int .i64 (-1))] ?_
  exact Same.of_eq (by simp only[Ak];rw[Pj,if_pos (by assumption)])
 ·try simp only[Am] at c1
  refine Ai ?_
  refine Ac ?_
  refine Ab [] [10] ?_
  refine Bd (q:=!(Op.bytesLess a b||Hb a b)) (by kernel_rfl) (fun c2=>?_) (fun c2=>?_)
  ·try simp only[Am] at c2
   refine Ab [] [4] ?_
   refine Ag ?_
   refine RK wR [(.int .i64 1)] ?_
   exact Same.of_eq (by simp only[Ak];rw[Pj,if_neg (by simp_all),if_pos (by rw[←W5 (by simp_all)];simp_all)])
  ·try simp only[Am] at c2
   refine Ai ?_
   refine Ab [] [4] ?_
   refine Ag ?_
   refine RK wR [(.int .i64 0)] ?_
   exact Same.of_eq (by simp only[Ak];rw[Pj,if_neg (by simp_all),if_neg (by rw[←W5 (by simp_all)];simp_all)])
theorem Tn (a b : List UInt8) (ha : a.length ≤ 4194304) (hb : b.length ≤ 4194304) :
  FnV Tryz.prog 230 [(.str a),(.str b)] (.int .i64 (C3 a b)):=by
 refine A8 [.tmp 4] Tryz.func230 rfl Tryz.ntmps230 rfl rfl (fun B F hF=>?_)
 refine Ab [] [0,1] ?_
 refine Ac ?_
 refine Ay ?_
 refine Bz (fun g y=>∃(x:List UInt8),Lib.trimLeftB x 48=Lib.trimLeftB a 48∧x.length≤a.length∧y=⟨[(0,(.str x)),(1,(.str b))],[],0⟩∧g=x.length) [0,1] 0 _ (by omega) ⟨a,(by rfl),(by exact Nat.le_refl _),(by kernel_rfl),rfl⟩ ?_
 rintro g1 y1 ⟨x,f1_1,f1_2,rfl,rfl⟩
 refine Ac ?_
 obtain⟨b1,hb1⟩:∃b,b=(decide (0 < (x.length:Int))):=⟨_,rfl⟩
 refine Af (CS:=[(5,(b1=true→(b1=true)∧(0≤(0:Int)∧0 < x.length))),(6,(b1=true→b1=true)),(7,(b1=true→b1=true))]) [9,10,11] [0,1,12] [] hk0 (vk 4 8 (a:=.bool (decide (0 < (x.length:Int)))) (b:=.bool b1) (Imp.of_eq (by rw[hb1]))<|v0) (by refine cc _ ?_<|cc _ ?_<|cc _ ?_ c0<;>(intros;simp_all;done)) ?_
 refine Bd (q:=b1&&(decide (((Aj x 0).toNat:Int)=48))) (by kernel_rfl) (fun c1=>?_) (fun c1=>?_)
 ·subst hb1
  try simp only[Am] at c1
  refine Ai ?_
  refine Ay ?_
  refine An ?_
  refine Au 0 [] [0,1] [] hk0 v0 (cc 1 (p:=(0≤(1:Int)∧(1:Int)≤(x.length:Int)∧(x.length:Int)≤(x.length:Int))) (by omega)<|c0) ?_
  refine⟨by kernel_rfl,_,?_,(x.drop 1),?_,?_,(Eq.trans (b:=(⟨[(0,(.str ((x.take x.length).drop 1))),(1,(.str b))],[],0⟩:St)) (by kernel_rfl) (by rw[List.take_length]<;>kernel_rfl)),rfl⟩
  ·simp;omega
  ·rw[W3 c1.1 c1.2];exact f1_1
  ·rw[List.length_drop];omega
 ·subst hb1
  try simp only[Am] at c1
  have hx:=W2 (x:=x) (fun h k=>by simp_all)
  rw[hx] at f1_1
  refine Bp ?_
  refine Ac ?_
  refine Ay ?_
  refine Bz (fun g y=>∃(z:List UInt8),Lib.trimLeftB z 48=Lib.trimLeftB b 48∧z.length≤b.length∧y=⟨[(0,(.str x)),(1,(.str z))],[],0⟩∧g=z.length) [0,1] 0 _ (by omega) ⟨b,(by rfl),(by exact Nat.le_refl _),(by kernel_rfl),rfl⟩ ?_
  rintro g2 y2 ⟨z,f2_1,f2_2,rfl,rfl⟩
  refine Ac ?_
  obtain⟨b2,hb2⟩:∃b,b=(decide (0 < (z.length:Int))):=⟨_,rfl⟩
  refine Af (CS:=[(5,(b2=true→(b2=true)∧(0≤(0:Int)∧0 < z.length))),(6,(b2=true→b2=true)),(7,(b2=true→b2=true))]) [19,20,21] [0,1,22] [] hk0 (vk 4 18 (a:=.bool (decide (0 < (z.length:Int)))) (b:=.bool b2) (Imp.of_eq (by rw[hb2]))<|v0) (by refine cc _ ?_<|cc _ ?_<|cc _ ?_ c0<;>(intros;simp_all;done)) ?_
  refine Bd (q:=b2&&(decide (((Aj z 0).toNat:Int)=48))) (by kernel_rfl) (fun c2=>?_) (fun c2=>?_)
  ·subst hb2
   try simp only[Am] at c2
   refine Ai ?_
   refine Ay ?_
   refine An ?_
   refine Au 0 [] [0,1] [] hk0 v0 (cc 1 (p:=(0≤(1:Int)∧(1:Int)≤(z.length:Int)∧(z.length:Int)≤(z.length:Int))) (by omega)<|c0) ?_
   refine⟨by kernel_rfl,_,?_,(z.drop 1),?_,?_,(Eq.trans (b:=(⟨[(0,(.str x)),(1,(.str ((z.take z.length).drop 1)))],[],0⟩:St)) (by kernel_rfl) (by rw[List.take_length]<;>kernel_rfl)),rfl⟩
   ·simp;omega
   ·rw[W3 c2.1 c2.2];exact f2_1
   ·rw[List.length_drop];omega
  ·subst hb2
   try simp only[Am] at c2
   have hz:=W2 (x:=z) (fun h k=>by simp_all)
   rw[hz] at f2_1
   refine Bp ?_
   refine Ac ?_
   refine Ab [] [0,1,29] ?_
   refine Da (p:=(x.length:Int)=(z.length:Int)) (by kernel_rfl) (fun c3=>?_) (fun c3=>?_)
   ·refine Af [] [4] [] (hk 5 Rg (P2 ((x.length:Int)-(z.length:Int)))<|hk0) v0 (cc 4 (p:=(-9223372036854775808≤(x.length:Int)-(z.length:Int)∧(x.length:Int)-(z.length:Int)≤9223372036854775807)) (by omega)<|c0) ?_
    refine Ag ?_
    refine RK wR [(.int .i64 (C7 ((x.length:Int)-(z.length:Int)) 0))] ?_
    exact Same.of_eq (by simp only[Ak];rw[Ru];unfold C3;rw[←f1_1,←f2_1];unfold orI;rw[if_neg (by unfold C7;repeat' split<;>omega)])
   ·refine Ai ?_
    refine Af [] [4] [] (hk 2 Q3f (Yg x z)<|hk0) v0 c0 ?_
    refine Ag ?_
    refine RK wR [(.int .i64 (Lib.compareBytes x z))] ?_
    exact Same.of_eq (by simp only[Ak];unfold C3;rw[←f1_1,←f2_1];unfold orI;rw[if_pos (by unfold C7;repeat' split<;>omega)])
theorem Yh (s : List UInt8) (hs : s.length ≤ 4194304) :
  FnV Tryz.prog 252 [(.str s)] (.str (s.drop (Ar C9 s))):=by
 refine A8 [.tmp 2] Tryz.func252 rfl Tryz.ntmps252 rfl rfl (fun B F hF=>?_)
 refine Ab [] [0] ?_
 refine Ac ?_
 refine Ay ?_
 refine Bz (fun g y=>∃(x:List UInt8),x.length≤s.length∧x.drop (Ar C9 x)=s.drop (Ar C9 s)∧y=⟨[(0,(.str x))],[],0⟩∧g=x.length) [0] 0 _ (by omega) ⟨s,(by exact Nat.le_refl _),(by rfl),(by kernel_rfl),rfl⟩ ?_
 rintro g1 y1 ⟨x,f1_1,f1_2,rfl,rfl⟩
 refine Ac ?_
 refine Ab [] [0,7] ?_
 refine A5 (p:=0 < (x.length:Int)) (by kernel_rfl) (fun c1=>?_) (fun c1=>?_)
 ·refine Ai ?_
  refine Ay ?_
  refine Af [] [0,3] [] (hk 2 Rh (Pw (Aj x 0))<|hk0) v0 (cc 1 (p:=(0≤(0:Int)∧0 < x.length)) (by omega)<|c0) ?_
  refine Af [] [0,3,4] [] (hk 2 Lg (Kx (Aj x 0))<|hk0) v0 (cc 1 (p:=(0≤(0:Int)∧0 < x.length)) (by omega)<|c0) ?_
  refine Ac ?_
  obtain⟨b1,hb1⟩:∃b,b=(B7 (Aj x 0)):=⟨_,rfl⟩
  obtain⟨b2,hb2⟩:∃b,b=(b1||(Aq (Aj x 0))):=⟨_,rfl⟩
  obtain⟨b3,hb3⟩:∃b,b=(b2||(decide (((Aj x 0).toNat:Int)=126))):=⟨_,rfl⟩
  refine Af (CS:=[(3,(b1=false→(!b1)=true)),(6,((!b2)=true→((!b2)=true)∧(0≤(0:Int)∧0 < x.length))),(7,((!b2)=true→(!b2)=true)),(8,(b2=false→(!b2)=true)),(11,((!b3)=true→((!b3)=true)∧(0≤(0:Int)∧0 < x.length))),(12,((!b3)=true→(!b3)=true)),(13,(b3=false→(!b3)=true))]) [16,19,20,21,24,25,26] [0,27] [] hk0 (vk 2 15 (a:=.bool (B7 (Aj x 0))) (b:=.bool b1) (Imp.of_eq (by rw[hb1]))<|vk 5 18 (a:=.bool (b1||(Aq (Aj x 0)))) (b:=.bool b2) (Imp.of_eq (by rw[hb2]))<|vk 9 22 (a:=.bool (b2||(decide (((Aj x 0).toNat:Int)=126)))) (b:=.bool b3) (Imp.of_eq (by rw[hb3]))<|v0) (by refine cc _ ?_<|cc _ ?_<|cc _ ?_<|cc _ ?_<|cc _ ?_<|cc _ ?_<|cc _ ?_ c0<;>(intros;simp_all;done)) ?_
  refine Bd (q:=b3||(decide (((Aj x 0).toNat:Int)=94))) (by kernel_rfl) (fun c2=>?_) (fun c2=>?_)
  ·subst hb3 hb2 hb1
   try simp only[Am] at c2
   refine Ab [] [2] ?_
   refine Ag ?_
   refine RK wR [(.str x)] ?_
   exact Same.of_eq (by simp only[Ak];rw[←f1_2,Q72 (X2d c2)])
  ·subst hb3 hb2 hb1
   try simp only[Am] at c2
   refine Ai ?_
   refine An ?_
   refine Au 0 [] [0] [] hk0 v0 (cc 1 (p:=(0≤(1:Int)∧(1:Int)≤(x.length:Int)∧(x.length:Int)≤(x.length:Int))) (by omega)<|c0) ?_
   refine⟨by kernel_rfl,_,?_,(x.drop 1),?_,?_,(Eq.trans (b:=(⟨[(0,(.str ((x.take x.length).drop 1)))],[],0⟩:St)) (by kernel_rfl) (by rw[List.take_length]<;>kernel_rfl)),rfl⟩
   ·rw[List.length_drop];omega
   ·rw[List.length_drop];omega
   ·rw[Xm (by omega) (by unfold Fp;simp_all;omega)];exact f1_2
 ·refine Bp ?_
  refine Ab [] [2] ?_
  refine Ag ?_
  refine RK wR [(.str x)] ?_
  exact Same.of_eq (by simp only[Ak];rw[←f1_2,show x=[] from List.length_eq_zero_iff.1 (by omega)];rfl)
theorem P3 (s : List UInt8) (d : Bool) (hs : s.length ≤ 4194304) :
  FnV Tryz.prog 251 [(.str s),(.bool d)] (.int .i64 ((Ar (Cg d) s:Int))):=by
 refine A8 [.tmp 4] Tryz.func251 rfl Tryz.ntmps251 rfl rfl (fun B F hF=>?_)
 refine Ab [] [0,1] ?_
 refine Ab [] [0,1,5] ?_
 refine Ac ?_
 refine Ay ?_
 refine Bz (fun g y=>∃(i:Nat),i≤s.length∧(∀j,j < i→Cg d (Aj s j)=true)∧y=⟨[(0,(.str s)),(1,(.bool d)),(5,(.int .i64 ((i:Int))))],[],0⟩∧g=s.length-i) [0,1,5] 0 _ (by omega) ⟨0,(by omega),(by exact fun j hj=>by omega),(by kernel_rfl),rfl⟩ ?_
 rintro g1 y1 ⟨i,f1_1,f1_2,rfl,rfl⟩
 refine Ac ?_
 refine Ab [] [0,1,5,11] ?_
 refine A5 (p:=(i:Int) < (s.length:Int)) (by kernel_rfl) (fun c1=>?_) (fun c1=>?_)
 ·refine Ai ?_
  refine Ay ?_
  refine Af [] [0,1,5,6] [] (hk 3 Rh (Pw (Aj s i))<|hk0) v0 (cc 2 (p:=(0≤(i:Int)∧i < s.length)) (by omega)<|c0) ?_
  refine Af [] [0,1,5,6,7] [] (hk 3 Lg (Kx (Aj s i))<|hk0) v0 (cc 2 (p:=(0≤(i:Int)∧i < s.length)) (by omega)<|c0) ?_
  refine Ac ?_
  obtain⟨b1,hb1⟩:∃b,b=(d&&(!(Aq (Aj s i)))):=⟨_,rfl⟩
  refine Af (CS:=[(3,(d=true→d=true)),(4,(d=true→d=true)),(7,((!b1)=true→(!b1)=true)),(8,((!b1)=true→(!b1)=true)),(10,(((!b1)&&(!d))=true→((!b1)&&(!d))=true)),(11,((!b1)=true→((!b1)=true)∧((!d)=true→((!b1)&&(!d))=true))),(12,(b1=false→(!b1)=true))]) [22,23,26,27,28,29,30,31] [0,1,5,32] [] hk0 (vk 6 25 (a:=.bool (d&&(!(Aq (Aj s i))))) (b:=.bool b1) (Imp.of_eq (by rw[hb1]))<|v0) (by refine cc _ ?_<|cc _ ?_<|cc _ ?_<|cc _ ?_<|cc _ ?_<|cc _ ?_<|cc _ ?_ c0<;>(intros;simp_all;done)) ?_
  refine Bd (q:=b1||((!d)&&(!(B7 (Aj s i))))) (by kernel_rfl) (fun c2=>?_) (fun c2=>?_)
  ·subst hb1
   try simp only[Am] at c2
   refine Ab [] [4] ?_
   refine Ag ?_
   refine RK wR [(.int .i64 ((i:Int)))] ?_
   exact Same.of_eq (by simp only[Ak];rw[Vr (i:=i) (by omega) f1_2 (by cases d<;>simp_all [Cg])])
  ·subst hb1
   try simp only[Am] at c2
   refine Ai ?_
   refine An ?_
   refine Au 0 [] [0,1,5] [] hk0 v0 (cc 1 (p:=(-9223372036854775808≤(i:Int)+1∧(i:Int)+1≤9223372036854775807)) (by omega)<|c0) ?_
   refine⟨by kernel_rfl,_,?_,i+1,?_,?_,(by kernel_rfl),rfl⟩
   ·omega
   ·omega
   ·intro j hj
    by_cases h:j=i
    ·subst h;cases d<;>simp_all [Cg]
    ·exact f1_2 j (by omega)
 ·refine Bp ?_
  refine Ab [] [4] ?_
  refine Ag ?_
  refine RK wR [(.int .i64 ((i:Int)))] ?_
  exact Same.of_eq (by simp only[Ak];rw[Vs (fun j hj=>f1_2 j (by omega)),show i=s.length from by omega])
theorem Yd (s : List UInt8) :
  FnV Tryz.prog 250 [(.str s)] (.int .i64 (B4 s)):=by
 have hb0:(Aj s 0).toNat < 256:=(Aj s 0).toNat_lt
 refine A8 [.tmp 2] Tryz.func250 rfl Tryz.ntmps250 rfl rfl (fun B F hF=>?_)
 refine Ab [] [0] ?_
 refine Ac ?_
 refine Ab [] [0,7] ?_
 refine A5 (p:=(s.length:Int)=0) (by kernel_rfl) (fun c1=>?_) (fun c1=>?_)
 ·refine Ab [] [2] ?_
  refine Ag ?_
  refine RK wR [(.int .i64 0)] ?_
  exact Same.of_eq (by simp only[Ak];unfold B4;rw[if_pos (.inl (List.length_eq_zero_iff.1 (by omega)))])
 ·refine Ai ?_
  refine Af [] [0,3] [] (hk 2 Lg (Kx (Aj s 0))<|hk0) v0 (cc 1 (p:=(0≤(0:Int)∧0 < s.length)) (by omega)<|c0) ?_
  refine Af [] [0,3,4] [] (hk 2 Rh (Pw (Aj s 0))<|hk0) v0 (cc 1 (p:=(0≤(0:Int)∧0 < s.length)) (by omega)<|c0) ?_
  refine Ac ?_
  refine Ab [] [0,4,14] ?_
  refine Bd (q:=Aq (Aj s 0)) (by kernel_rfl) (fun c2=>?_) (fun c2=>?_)
  ·try simp only[Am] at c2
   refine Ab [] [2] ?_
   refine Ag ?_
   refine RK wR [(.int .i64 0)] ?_
   exact Same.of_eq (by simp only[Ak];unfold B4;rw[if_pos (.inr (by assumption))])
  ·try simp only[Am] at c2
   refine Ai ?_
   refine Ac ?_
   refine Af [] [0,4,17] [] hk0 v0 (cc 1 (p:=(0≤(0:Int)∧0 < s.length)) (by omega)<|c0) ?_
   refine A5 (p:=((Aj s 0).toNat:Int)=126) (by kernel_rfl) (fun c3=>?_) (fun c3=>?_)
   ·refine Ab [] [2] ?_
    refine Ag ?_
    refine RK wR [(.int .i64 (-1))] ?_
    exact Same.of_eq (by simp only[Ak];unfold B4;rw[if_neg (by simp_all),if_pos (by omega)])
   ·refine Ai ?_
    refine Ac ?_
    refine Ab [] [0,18] ?_
    refine Bd (q:=B7 (Aj s 0)) (by kernel_rfl) (fun c4=>?_) (fun c4=>?_)
    ·try simp only[Am] at c4
     refine Af (CS:=[(1,(0≤(0:Int)∧0 < s.length)),(2,(-9223372036854775808≤((Aj s 0).toNat:Int)∧((Aj s 0).toNat:Int)≤9223372036854775807))]) [] [2] [] hk0 v0 (by refine cc _ ?_<|cc _ ?_ c0<;>omega) ?_
     refine Ag ?_
     refine RK wR [(.int .i64 (((Aj s 0).toNat:Int)))] ?_
     exact Same.of_eq (by simp only[Ak];unfold B4;rw[if_neg (by simp_all),if_neg (by omega),if_pos (by assumption)])
    ·try simp only[Am] at c4
     refine Ai ?_
     refine Af (CS:=[(1,(0≤(0:Int)∧0 < s.length)),(2,(-9223372036854775808≤((Aj s 0).toNat:Int)∧((Aj s 0).toNat:Int)≤9223372036854775807)),(3,(-9223372036854775808≤((Aj s 0).toNat:Int)+256∧((Aj s 0).toNat:Int)+256≤9223372036854775807))]) [] [2] [] hk0 v0 (by refine cc _ ?_<|cc _ ?_<|cc _ ?_ c0<;>omega) ?_
     refine Ag ?_
     refine RK wR [(.int .i64 (((Aj s 0).toNat:Int)+256))] ?_
     exact Same.of_eq (by simp only[Ak];unfold B4;rw[if_neg (by simp_all),if_neg (by omega),if_neg (by simp_all),Int.add_comm];try rfl;try simp[])
theorem Yk (s : List UInt8) :
  FnV Tryz.prog 249 [(.str s)] (.bool (Hd s)):=by
 refine A8 [.tmp 2] Tryz.func249 rfl Tryz.ntmps249 rfl rfl (fun B F hF=>?_)
 refine Ab [] [0] ?_
 refine Ac ?_
 refine Ab [] [0,6] ?_
 refine A5 (p:=(s.length:Int)=0) (by kernel_rfl) (fun c1=>?_) (fun c1=>?_)
 ·refine Ab [] [2] ?_
  refine Ag ?_
  refine RK wR [(.bool false)] ?_
  exact Same.of_eq (by simp only[Ak];unfold Hd;rw[show s=[] from List.length_eq_zero_iff.1 (by omega)];rfl)
 ·refine Ai ?_
  refine Af [] [3] [] (hk 2 Lg (Kx (Aj s 0))<|hk0) v0 (cc 1 (p:=(0≤(0:Int)∧0 < s.length)) (by omega)<|c0) ?_
  refine Ab [] [2] ?_
  refine Ag ?_
  refine RK wR [(.bool (!(Aq (Aj s 0))))] ?_
  exact Same.of_eq (by simp only[Ak];unfold Hd;rw[decide_eq_false (fun e=>by simp[e] at c1)];simp)
end Sv
end
end Go.Proofs.YtlmloohlmlahfaaGreatDoor
