/- The texts Prov1, CompI, Prov2, Prov3, Prov4, Prov5, Prov6, Prov7, Prov8, Evr2, Evr3, Evr4, Evr5, Evr6, Ref7a, PoolP, Awake7, ProvP, OwnP, SortI, IdsV, SetP, Ref1, IdsM, Evr7, DiffP, S39, Diff1, Diff2, Diff3, Ref3a, Ref3b, Ref3c, NamP, Ref7b, Ref20, Ref7c, TellsP, S40, OrderP of the proof, joined. Each says at its theorems what it proves. -/
import Derived.Test.YtlmloohlmlahfaaGreatDoorV2
import Derived.Sort.OwnSortedInts
import Derived.Shelf.Slices.In.SortNone
set_option linter.unusedSimpArgs false
set_option linter.unusedVariables false
namespace Go.Proofs.YtlmloohlmlahfaaGreatDoor
section
open Go Go.RowKit
namespace Sv
attribute [local irreducible] SW SO Bn
set_option maxHeartbeats 1000000
set_option maxRecDepth 100000
theorem Ut:Au Tryz.prog 10:=Ay Tryz.func10 (by kernel_rfl) rfl
theorem Uj:Au Tryz.prog 44:=Ay Tryz.func44 (by kernel_rfl) rfl
structure OfferT where
 id:Int
 own:Bool
 op:Int
 evr:List UInt8
 deriving Inhabited
noncomputable def Iv (o:OfferT):AV:=.agg [.int .i64 o.id,.bool o.own,.int .i64 o.op,.str o.evr]
def Cc (ps:List (List UInt8 × OfferT)) (s:List UInt8):List OfferT:=(ps.filter fun q=>decide (q.1=s)).map fun q=>q.2
noncomputable def A7 (ps:List (List UInt8 × OfferT)) (s:List UInt8):List AV:=(Cc ps s).map Iv
theorem Yz (ps:List (List UInt8 × OfferT)) (s:List UInt8) (o:OfferT):D4 (A7 ps) s (A7 ps s++[Iv o])=A7 (ps++[(s,o)]):=by
 funext t
 unfold D4 A7 Cc
 rw[List.filter_append,List.map_append,List.map_append]
 by_cases h:t=s
 ·subst h;rw[if_pos rfl];simp
 ·rw[if_neg h]
  have:¬s=t:=fun q=>h q.symm
  simp[this]
theorem Pv (ps:List (List UInt8 × OfferT)) (s:List UInt8):(A7 ps s).length≤ps.length:=by
 unfold A7 Cc
 rw[List.length_map,List.length_map];exact List.length_filter_le _ _
def E8 (i:Nat) (p:PkgT) (j:Nat):List (List UInt8 × OfferT):=(p.name,⟨i,true,2,p.evr⟩)::(p.provides.take j).map fun d=>(d.name,⟨i,false,d.op,d.evr⟩)
def Er (i:Nat) (p:PkgT) (j:Nat):List (List UInt8 × OfferT):=E8 i p p.provides.length++(p.files.take j).map fun f=>(f,⟨i,false,0,[]⟩)
def H0 (i:Nat) (p:PkgT):List (List UInt8 × OfferT):=Er i p p.files.length
def Bo (l:List (PkgT × Int)) (n:Nat):List (List UInt8 × OfferT):=(List.range n).flatMap fun i=>H0 i (nth l i).1
theorem Q7z {i:Nat} {p:PkgT} {j:Nat} (h:j < p.provides.length):E8 i p (j+1)=E8 i p j++[((nth p.provides j).name,⟨i,false,(nth p.provides j).op,(nth p.provides j).evr⟩)]:=by
 unfold E8
 rw[List.take_add_one,List.getElem?_eq_getElem h,List.map_append]
 simp[nth,h]
theorem Q7y {i:Nat} {p:PkgT} {j:Nat} (h:j < p.files.length):Er i p (j+1)=Er i p j++[(nth p.files j,⟨i,false,0,[]⟩)]:=by
 unfold Er
 rw[List.take_add_one,List.getElem?_eq_getElem h,List.map_append,List.append_assoc]
 simp[nth,h]
theorem Xp {l:List (PkgT × Int)} {n:Nat}:Bo l (n+1)=Bo l n++H0 n (nth l n).1:=by
 unfold Bo
 rw[List.range_succ,List.flatMap_append];simp
theorem Pj {i:Nat} {p:PkgT} {j:Nat}:(E8 i p j).length≤1+p.provides.length:=by
 unfold E8;simp only[List.length_cons,List.length_map,List.length_take];omega
theorem Pi {i:Nat} {p:PkgT} {j:Nat}:(Er i p j).length≤1+p.provides.length+p.files.length:=by
 have:=Pj (i:=i) (p:=p) (j:=p.provides.length)
 unfold Er;simp only[List.length_append,List.length_map,List.length_take];omega
theorem Xq {l:List (PkgT × Int)} (hs:∀i,i < l.length→(nth l i).1.size≤4194304):∀n,n≤l.length→(Bo l n).length≤n*8388609:=by
 intro n
 induction n with
 |zero=>intro _;exact Nat.le_refl _
 |succ n ih =>
  intro h
  have h1:=ih (by omega)
  have h2:=Pi (i:=n) (p:=(nth l n).1) (j:=(nth l n).1.files.length)
  have h3:=(nth l n).1.sizes
  have h4:=hs n (by omega)
  have h5:=D2 (nth l n).1.provides
  have h6:=K1 (nth l n).1.files
  have h7:argsSize (nth l n).1.provides≤(nth l n).1.depSize:=by unfold PkgT.depSize;omega
  rw[Xp,List.length_append]
  unfold H0
  omega
noncomputable def A4 (st:PoolT):AV:=.agg [.int .i64 st.kind,.int .i64 (st.all.length:Int),.smap (.slice none 0 0) (fun s => .row 4 (A7 (Bo st.all st.all.length) s).length (fun i=>(A7 (Bo st.all st.all.length) s).getD i Bp))]
theorem Sn (kind count : Int) (ps : List (List UInt8 × OfferT)) (s : List UInt8) (o : OfferT) (hl : (A7 ps s).length ≤ 2147483648) :
  Gf Tryz.prog 44 [(.str s),(.agg [(.int .i64 o.id),(.bool o.own),(.int .i64 o.op),(.str o.evr)]),(.ptr 0 0)] [(0,(.row [(.ptr 1 0)] 32)),(1,(.row [(.int .i64 kind),(.int .i64 count),(.map 2)] 91)),(2,(.mm (A7 ps) none 93 4))] 3 (.tup []) [(0,(.row [(.ptr 1 0)] 32)),(1,(.row [(.int .i64 kind),(.int .i64 count),(.map 2)] 91)),(2,(.mm (A7 (ps++[(s,o)])) none 93 4))]:=by
 refine Le [] Tryz.func44 rfl Tryz.ntmps44 rfl rfl (by kernel_rfl) (by kernel_rfl) (by kernel_rfl) (fun B F hF=>?_)
 refine Aa [] [0,2,4] ?_
 refine Re 4 (y:=⟨[(0,(.str s)),(2,(.ptr 0 0)),(4,(.fp (.agg [(.int .i64 o.id),(.bool o.own),(.int .i64 o.op),(.str o.evr)])))],[(0,(.row [(.ptr 1 0)] 32)),(1,(.row [(.int .i64 kind),(.int .i64 count),(.map 2)] 91)),(2,(.mm (A7 ps) none 93 4))],4⟩) (by kernel_rfl) ?_
 refine J4 (by kernel_rfl) (fun F1 hF1=>?_)
 refine Cn false 1 (lsD 15 [0,1,2,3,4,5,6,7,8,9,10,11,12,13]) ⟨[(8,(.map 2)),(9,(.str s)),(18,(.own 4))],[(0,(.row [(.ptr 1 0)] 32)),(1,(.row [(.int .i64 kind),(.int .i64 count),(.map 2)] 91)),(2,(.mm (A7 ps) (some s) 93 4)),(4,(.grow (((A7 ps) s)++([(.agg [(.int .i64 o.id),(.bool o.own),(.int .i64 o.op),(.str o.evr)])]:List AV)) 93 4)),(5,(.row [(.int .i64 o.id),(.bool o.own),(.int .i64 o.op),(.str o.evr)] 93))],6⟩ ?_ (fun m1_1=>?_)
 ·refine Gx (fuel:=0) 14 (by kernel_rfl) ?_
  refine Dq (fuel:=0) 14 rfl ?_
  refine Rh (b:=2) (c:=4) (s:=s) (s1:=s) (y:=⟨[(8,(.map 2)),(9,(.str s)),(18,(.own 4))],[(0,(.row [(.ptr 1 0)] 32)),(1,(.row [(.int .i64 kind),(.int .i64 count),(.map 2)] 91)),(2,(.mm (D4 (A7 ps) s (((A7 ps) s)++([(.agg [(.int .i64 o.id),(.bool o.own),(.int .i64 o.op),(.str o.evr)])]:List AV))) none 93 4)),(5,(.row [(.int .i64 o.id),(.bool o.own),(.int .i64 o.op),(.str o.evr)] 93))],6⟩) (by kernel_rfl) (by kernel_rfl) (by kernel_rfl) (by kernel_rfl) (by kernel_rfl) rfl Tryz.underlying89 Tryz.underlying9 (by kernel_rfl) rfl ?_
  refine B5 ⟨rfl,?_⟩
  refine Az [] ?_
  refine Hd (by kernel_rfl) ?_
  refine Ej (.inr rfl) (al:=[]) (by kernel_rfl) ?_ ((by kernel_rfl:Dl 3 _=some [(0,(.row [(.ptr 1 0)] 32)),(1,(.row [(.int .i64 kind),(.int .i64 count),(.map 2)] 91)),(2,(.mm (D4 (A7 ps) s (((A7 ps) s)++([(.agg [(.int .i64 o.id),(.bool o.own),(.int .i64 o.op),(.str o.evr)])]:List AV))) none 93 4))]).trans ?_)
  ·rfl
  ·rw[show(D4 (A7 ps) s (((A7 ps) s)++([(.agg [(.int .i64 o.id),(.bool o.own),(.int .i64 o.op),(.str o.evr)])]:List AV)))=A7 (ps++[(s,o)]) from Yz ps s o]<;>kernel_rfl
 refine Cn false 1 (lsD 15 [0,1,2,3,4,5,6,7,8,9,10,11,12,13]) ⟨[(8,(.map 2)),(9,(.str s)),(18,(.own 5))],[(0,(.row [(.ptr 1 0)] 32)),(1,(.row [(.int .i64 kind),(.int .i64 count),(.map 2)] 91)),(2,(.mm (A7 ps) (some s) 93 4)),(4,(.row [(.int .i64 o.id),(.bool o.own),(.int .i64 o.op),(.str o.evr)] 93)),(5,(.grow (((A7 ps) s)++([(.agg [(.int .i64 o.id),(.bool o.own),(.int .i64 o.op),(.str o.evr)])]:List AV)) 93 4))],6⟩ ?_ (fun m1_2=>?_)
 ·refine Gx (fuel:=0) 14 (by kernel_rfl) ?_
  refine Dq (fuel:=0) 14 rfl ?_
  refine Rh (b:=2) (c:=5) (s:=s) (s1:=s) (y:=⟨[(8,(.map 2)),(9,(.str s)),(18,(.own 5))],[(0,(.row [(.ptr 1 0)] 32)),(1,(.row [(.int .i64 kind),(.int .i64 count),(.map 2)] 91)),(2,(.mm (D4 (A7 ps) s (((A7 ps) s)++([(.agg [(.int .i64 o.id),(.bool o.own),(.int .i64 o.op),(.str o.evr)])]:List AV))) none 93 4)),(4,(.row [(.int .i64 o.id),(.bool o.own),(.int .i64 o.op),(.str o.evr)] 93))],6⟩) (by kernel_rfl) (by kernel_rfl) (by kernel_rfl) (by kernel_rfl) (by kernel_rfl) rfl Tryz.underlying89 Tryz.underlying9 (by kernel_rfl) rfl ?_
  refine B5 ⟨rfl,?_⟩
  refine Az [] ?_
  refine Hd (by kernel_rfl) ?_
  refine Ej (.inr rfl) (al:=[]) (by kernel_rfl) ?_ ((by kernel_rfl:Dl 3 _=some [(0,(.row [(.ptr 1 0)] 32)),(1,(.row [(.int .i64 kind),(.int .i64 count),(.map 2)] 91)),(2,(.mm (D4 (A7 ps) s (((A7 ps) s)++([(.agg [(.int .i64 o.id),(.bool o.own),(.int .i64 o.op),(.str o.evr)])]:List AV))) none 93 4))]).trans ?_)
  ·rfl
  ·rw[show(D4 (A7 ps) s (((A7 ps) s)++([(.agg [(.int .i64 o.id),(.bool o.own),(.int .i64 o.op),(.str o.evr)])]:List AV)))=A7 (ps++[(s,o)]) from Yz ps s o]<;>kernel_rfl
 refine Cn false 2 (lsD 15 [0,1,2,3,4,5,6,7,8,9,10,11,12]) ⟨[(8,(.map 2)),(9,(.str s)),(15,(.own 4)),(17,(.sl 5 0 1 1 false))],[(0,(.row [(.ptr 1 0)] 32)),(1,(.row [(.int .i64 kind),(.int .i64 count),(.map 2)] 91)),(2,(.mm (A7 ps) (some s) 93 4)),(4,(.grow ((A7 ps) s) 93 4)),(5,(.row [(.int .i64 o.id),(.bool o.own),(.int .i64 o.op),(.str o.evr)] 93))],6⟩ ?_ (fun m1_3=>?_)
 ·refine Dc (fuel:=1) 13 [] (hold (p:=((((A7 ps) s).length+1)*40≤140737488355328)) (by omega)) ?_
  refine Az [8,9,18] ?_
  exact Bg m1_1
 refine Cn false 2 (lsD 15 [0,1,2,3,4,5,6,7,8,9,10,11,12]) ⟨[(8,(.map 2)),(9,(.str s)),(15,(.own 5)),(17,(.sl 4 0 1 1 false))],[(0,(.row [(.ptr 1 0)] 32)),(1,(.row [(.int .i64 kind),(.int .i64 count),(.map 2)] 91)),(2,(.mm (A7 ps) (some s) 93 4)),(4,(.row [(.int .i64 o.id),(.bool o.own),(.int .i64 o.op),(.str o.evr)] 93)),(5,(.grow ((A7 ps) s) 93 4))],6⟩ ?_ (fun m1_4=>?_)
 ·refine Dc (fuel:=1) 13 [] (hold (p:=((((A7 ps) s).length+1)*40≤140737488355328)) (by omega)) ?_
  refine Az [8,9,18] ?_
  exact Bg m1_2
 refine Cn false 2 (lsD 15 [0,1,2,4,5,6,7,8,9,10,11,12,13]) ⟨[(7,(.ptr 1 2)),(9,(.str s)),(18,(.own 4))],[(0,(.row [(.ptr 1 0)] 32)),(1,(.row [(.int .i64 kind),(.int .i64 count),(.map 2)] 91)),(2,(.mm (A7 ps) (some s) 93 4)),(4,(.grow (((A7 ps) s)++([(.agg [(.int .i64 o.id),(.bool o.own),(.int .i64 o.op),(.str o.evr)])]:List AV)) 93 4)),(5,(.row [(.int .i64 o.id),(.bool o.own),(.int .i64 o.op),(.str o.evr)] 93))],6⟩ ?_ (fun m1_5=>?_)
 ·refine Dc (fuel:=1) 3 [] A2 ?_
  refine Az [8,9,18] ?_
  exact Bg m1_1
 refine Cn false 2 (lsD 15 [0,1,2,4,5,6,7,8,9,10,11,12,13]) ⟨[(7,(.ptr 1 2)),(9,(.str s)),(18,(.own 5))],[(0,(.row [(.ptr 1 0)] 32)),(1,(.row [(.int .i64 kind),(.int .i64 count),(.map 2)] 91)),(2,(.mm (A7 ps) (some s) 93 4)),(4,(.row [(.int .i64 o.id),(.bool o.own),(.int .i64 o.op),(.str o.evr)] 93)),(5,(.grow (((A7 ps) s)++([(.agg [(.int .i64 o.id),(.bool o.own),(.int .i64 o.op),(.str o.evr)])]:List AV)) 93 4))],6⟩ ?_ (fun m1_6=>?_)
 ·refine Dc (fuel:=1) 3 [] A2 ?_
  refine Az [8,9,18] ?_
  exact Bg m1_2
 refine Cn false 3 (lsD 15 [0,1,2,3,4,5,6,7,8,9,10,11]) ⟨[(8,(.map 2)),(9,(.str s)),(15,(.own 4)),(16,(.agg [(.int .i64 o.id),(.bool o.own),(.int .i64 o.op),(.str o.evr)]))],[(0,(.row [(.ptr 1 0)] 32)),(1,(.row [(.int .i64 kind),(.int .i64 count),(.map 2)] 91)),(2,(.mm (A7 ps) (some s) 93 4)),(4,(.grow ((A7 ps) s) 93 4))],5⟩ ?_ (fun m1_7=>?_)
 ·refine Dc (fuel:=2) 12 [] A2 ?_
  refine Az [8,9,15,17] ?_
  exact Bg m1_3
 refine Cn true 3 (lsD 15 [0,1,2,3,4,5,6,7,8,9,11,12]) ⟨[(8,(.map 2)),(9,(.str s)),(13,(.map 2)),(14,(.str s)),(17,(.sl 4 0 1 1 false))],[(0,(.row [(.ptr 1 0)] 32)),(1,(.row [(.int .i64 kind),(.int .i64 count),(.map 2)] 91)),(2,(.mm (A7 ps) none 93 4)),(4,(.row [(.int .i64 o.id),(.bool o.own),(.int .i64 o.op),(.str o.evr)] 93))],5⟩ ?_ (fun m1_8=>?_)
 ·refine Gx (fuel:=2) 10 (by kernel_rfl) ?_
  refine Dq (fuel:=2) 10 rfl ?_
  refine Fe (b:=2) (s:=s) (y:=⟨[(8,(.map 2)),(9,(.str s)),(13,(.map 2)),(14,(.str s)),(17,(.sl 4 0 1 1 false)),(15,(.own 5))],[(0,(.row [(.ptr 1 0)] 32)),(1,(.row [(.int .i64 kind),(.int .i64 count),(.map 2)] 91)),(2,(.mm (A7 ps) (some s) 93 4)),(4,(.row [(.int .i64 o.id),(.bool o.own),(.int .i64 o.op),(.str o.evr)] 93)),(5,(.grow ((A7 ps) s) 93 4))],6⟩) (by kernel_rfl) (by kernel_rfl) (by kernel_rfl) Tryz.underlying89 Tryz.underlying9 (fun _=>by kernel_rfl) (by kernel_rfl) ?_
  refine B5 ⟨rfl,?_⟩
  refine Az [8,9,15,17] ?_
  exact Bg m1_4
 refine Cn false 3 (lsD 15 [0,1,2,4,5,6,7,8,9,10,11,12]) ⟨[(7,(.ptr 1 2)),(9,(.str s)),(15,(.own 4)),(17,(.sl 5 0 1 1 false))],[(0,(.row [(.ptr 1 0)] 32)),(1,(.row [(.int .i64 kind),(.int .i64 count),(.map 2)] 91)),(2,(.mm (A7 ps) (some s) 93 4)),(4,(.grow ((A7 ps) s) 93 4)),(5,(.row [(.int .i64 o.id),(.bool o.own),(.int .i64 o.op),(.str o.evr)] 93))],6⟩ ?_ (fun m1_9=>?_)
 ·refine Cp 3 13 (by kernel_rfl) ?_ ?_
  ·refine Bd (fuel:=2) 3 [] A2 ?_
   refine Az [8,9,15,17] ?_
   exact Bg m1_3
  ·refine Bd (fuel:=2) 13 [] (hold (p:=((((A7 ps) s).length+1)*40≤140737488355328)) (by omega)) ?_
   refine Az [7,9,18] ?_
   exact Bg m1_5
 refine Cn false 3 (lsD 15 [0,1,2,4,5,6,7,8,9,10,11,12]) ⟨[(7,(.ptr 1 2)),(9,(.str s)),(15,(.own 5)),(17,(.sl 4 0 1 1 false))],[(0,(.row [(.ptr 1 0)] 32)),(1,(.row [(.int .i64 kind),(.int .i64 count),(.map 2)] 91)),(2,(.mm (A7 ps) (some s) 93 4)),(4,(.row [(.int .i64 o.id),(.bool o.own),(.int .i64 o.op),(.str o.evr)] 93)),(5,(.grow ((A7 ps) s) 93 4))],6⟩ ?_ (fun m1_10=>?_)
 ·refine Cp 3 13 (by kernel_rfl) ?_ ?_
  ·refine Bd (fuel:=2) 3 [] A2 ?_
   refine Az [8,9,15,17] ?_
   exact Bg m1_4
  ·refine Bd (fuel:=2) 13 [] (hold (p:=((((A7 ps) s).length+1)*40≤140737488355328)) (by omega)) ?_
   refine Az [7,9,18] ?_
   exact Bg m1_6
 refine Cn true 4 (lsD 15 [0,1,2,3,4,5,6,7,8,9,11]) ⟨[(8,(.map 2)),(9,(.str s)),(13,(.map 2)),(14,(.str s)),(16,(.agg [(.int .i64 o.id),(.bool o.own),(.int .i64 o.op),(.str o.evr)]))],[(0,(.row [(.ptr 1 0)] 32)),(1,(.row [(.int .i64 kind),(.int .i64 count),(.map 2)] 91)),(2,(.mm (A7 ps) none 93 4))],4⟩ ?_ (fun m1_11=>?_)
 ·refine Cp 10 12 (by kernel_rfl) ?_ ?_
  ·refine Dq (fuel:=3) 10 rfl ?_
   refine Fe (b:=2) (s:=s) (y:=⟨[(8,(.map 2)),(9,(.str s)),(13,(.map 2)),(14,(.str s)),(16,(.agg [(.int .i64 o.id),(.bool o.own),(.int .i64 o.op),(.str o.evr)])),(15,(.own 4))],[(0,(.row [(.ptr 1 0)] 32)),(1,(.row [(.int .i64 kind),(.int .i64 count),(.map 2)] 91)),(2,(.mm (A7 ps) (some s) 93 4)),(4,(.grow ((A7 ps) s) 93 4))],5⟩) (by kernel_rfl) (by kernel_rfl) (by kernel_rfl) Tryz.underlying89 Tryz.underlying9 (fun _=>by kernel_rfl) (by kernel_rfl) ?_
   refine B5 ⟨rfl,?_⟩
   refine Az [8,9,15,16] ?_
   exact Bg m1_7
  ·refine Bd (fuel:=3) 12 [] A2 ?_
   refine Az [8,9,13,14,17] ?_
   exact Bg m1_8
 refine Cn true 4 (lsD 15 [0,1,2,3,4,5,6,7,9,11,12]) ⟨[(8,(.map 2)),(9,(.str s)),(12,(.ptr 1 2)),(14,(.str s)),(17,(.sl 4 0 1 1 false))],[(0,(.row [(.ptr 1 0)] 32)),(1,(.row [(.int .i64 kind),(.int .i64 count),(.map 2)] 91)),(2,(.mm (A7 ps) none 93 4)),(4,(.row [(.int .i64 o.id),(.bool o.own),(.int .i64 o.op),(.str o.evr)] 93))],5⟩ ?_ (fun m1_12=>?_)
 ·refine Dc (fuel:=3) 8 [] A2 ?_
  refine Az [8,9,13,14,17] ?_
  exact Bg m1_8
 refine Cn false 4 (lsD 15 [0,1,2,4,5,6,7,8,9,10,11]) ⟨[(7,(.ptr 1 2)),(9,(.str s)),(15,(.own 4)),(16,(.agg [(.int .i64 o.id),(.bool o.own),(.int .i64 o.op),(.str o.evr)]))],[(0,(.row [(.ptr 1 0)] 32)),(1,(.row [(.int .i64 kind),(.int .i64 count),(.map 2)] 91)),(2,(.mm (A7 ps) (some s) 93 4)),(4,(.grow ((A7 ps) s) 93 4))],5⟩ ?_ (fun m1_13=>?_)
 ·refine Cp 3 12 (by kernel_rfl) ?_ ?_
  ·refine Bd (fuel:=3) 3 [] A2 ?_
   refine Az [8,9,15,16] ?_
   exact Bg m1_7
  ·refine Bd (fuel:=3) 12 [] A2 ?_
   refine Az [7,9,15,17] ?_
   exact Bg m1_9
 refine Cn true 4 (lsD 15 [0,1,2,4,5,6,7,8,9,11,12]) ⟨[(7,(.ptr 1 2)),(9,(.str s)),(13,(.map 2)),(14,(.str s)),(17,(.sl 4 0 1 1 false))],[(0,(.row [(.ptr 1 0)] 32)),(1,(.row [(.int .i64 kind),(.int .i64 count),(.map 2)] 91)),(2,(.mm (A7 ps) none 93 4)),(4,(.row [(.int .i64 o.id),(.bool o.own),(.int .i64 o.op),(.str o.evr)] 93))],5⟩ ?_ (fun m1_14=>?_)
 ·refine Cp 3 10 (by kernel_rfl) ?_ ?_
  ·refine Bd (fuel:=3) 3 [] A2 ?_
   refine Az [8,9,13,14,17] ?_
   exact Bg m1_8
  ·refine Dq (fuel:=3) 10 rfl ?_
   refine Fe (b:=2) (s:=s) (y:=⟨[(7,(.ptr 1 2)),(9,(.str s)),(13,(.map 2)),(14,(.str s)),(17,(.sl 4 0 1 1 false)),(15,(.own 5))],[(0,(.row [(.ptr 1 0)] 32)),(1,(.row [(.int .i64 kind),(.int .i64 count),(.map 2)] 91)),(2,(.mm (A7 ps) (some s) 93 4)),(4,(.row [(.int .i64 o.id),(.bool o.own),(.int .i64 o.op),(.str o.evr)] 93)),(5,(.grow ((A7 ps) s) 93 4))],6⟩) (by kernel_rfl) (by kernel_rfl) (by kernel_rfl) Tryz.underlying89 Tryz.underlying9 (fun _=>by kernel_rfl) (by kernel_rfl) ?_
   refine B5 ⟨rfl,?_⟩
   refine Az [7,9,15,17] ?_
   exact Bg m1_10
 refine Cn true 5 (lsD 15 [0,1,2,3,4,5,6,7,9,11]) ⟨[(8,(.map 2)),(9,(.str s)),(12,(.ptr 1 2)),(14,(.str s)),(16,(.agg [(.int .i64 o.id),(.bool o.own),(.int .i64 o.op),(.str o.evr)]))],[(0,(.row [(.ptr 1 0)] 32)),(1,(.row [(.int .i64 kind),(.int .i64 count),(.map 2)] 91)),(2,(.mm (A7 ps) none 93 4))],4⟩ ?_ (fun m1_15=>?_)
 ·refine Cp 8 12 (by kernel_rfl) ?_ ?_
  ·refine Bd (fuel:=4) 8 [] A2 ?_
   refine Az [8,9,13,14,16] ?_
   exact Bg m1_11
  ·refine Bd (fuel:=4) 12 [] A2 ?_
   refine Az [8,9,12,14,17] ?_
   exact Bg m1_12
 refine Cn true 5 (lsD 15 [0,1,2,4,5,6,7,8,9,11]) ⟨[(7,(.ptr 1 2)),(9,(.str s)),(13,(.map 2)),(14,(.str s)),(16,(.agg [(.int .i64 o.id),(.bool o.own),(.int .i64 o.op),(.str o.evr)]))],[(0,(.row [(.ptr 1 0)] 32)),(1,(.row [(.int .i64 kind),(.int .i64 count),(.map 2)] 91)),(2,(.mm (A7 ps) none 93 4))],4⟩ ?_ (fun m1_16=>?_)
 ·refine Ge 3 10 12 (by kernel_rfl) ?_ ?_ ?_
  ·refine Bd (fuel:=4) 3 [] A2 ?_
   refine Az [8,9,13,14,16] ?_
   exact Bg m1_11
  ·refine Dq (fuel:=4) 10 rfl ?_
   refine Fe (b:=2) (s:=s) (y:=⟨[(7,(.ptr 1 2)),(9,(.str s)),(13,(.map 2)),(14,(.str s)),(16,(.agg [(.int .i64 o.id),(.bool o.own),(.int .i64 o.op),(.str o.evr)])),(15,(.own 4))],[(0,(.row [(.ptr 1 0)] 32)),(1,(.row [(.int .i64 kind),(.int .i64 count),(.map 2)] 91)),(2,(.mm (A7 ps) (some s) 93 4)),(4,(.grow ((A7 ps) s) 93 4))],5⟩) (by kernel_rfl) (by kernel_rfl) (by kernel_rfl) Tryz.underlying89 Tryz.underlying9 (fun _=>by kernel_rfl) (by kernel_rfl) ?_
   refine B5 ⟨rfl,?_⟩
   refine Az [7,9,15,16] ?_
   exact Bg m1_13
  ·refine Bd (fuel:=4) 12 [] A2 ?_
   refine Az [7,9,13,14,17] ?_
   exact Bg m1_14
 refine Cn true 5 (lsD 15 [0,1,2,4,5,6,7,9,11,12]) ⟨[(7,(.ptr 1 2)),(9,(.str s)),(12,(.ptr 1 2)),(14,(.str s)),(17,(.sl 4 0 1 1 false))],[(0,(.row [(.ptr 1 0)] 32)),(1,(.row [(.int .i64 kind),(.int .i64 count),(.map 2)] 91)),(2,(.mm (A7 ps) none 93 4)),(4,(.row [(.int .i64 o.id),(.bool o.own),(.int .i64 o.op),(.str o.evr)] 93))],5⟩ ?_ (fun m1_17=>?_)
 ·refine Cp 3 8 (by kernel_rfl) ?_ ?_
  ·refine Bd (fuel:=4) 3 [] A2 ?_
   refine Az [8,9,12,14,17] ?_
   exact Bg m1_12
  ·refine Bd (fuel:=4) 8 [] A2 ?_
   refine Az [7,9,13,14,17] ?_
   exact Bg m1_14
 refine Cn true 7 (lsD 15 [0,1,2,3,4,9,11,12]) ⟨[(2,(.ptr 0 0)),(8,(.map 2)),(9,(.str s)),(14,(.str s)),(17,(.sl 4 0 1 1 false))],[(0,(.row [(.ptr 1 0)] 32)),(1,(.row [(.int .i64 kind),(.int .i64 count),(.map 2)] 91)),(2,(.mm (A7 ps) none 93 4)),(4,(.row [(.int .i64 o.id),(.bool o.own),(.int .i64 o.op),(.str o.evr)] 93))],5⟩ ?_ (fun m1_18=>?_)
 ·refine Dc (fuel:=6) 5 [] A2 ?_
  refine De (fuel:=4) [] [6,7] [8,9,12,14,17] A2 ?_
  refine Dc (fuel:=3) 8 [] A2 ?_
  refine Az [8,9,13,14,17] ?_
  exact Bg m1_8
 refine Cn true 7 (lsD 15 [0,1,2,4,5,9,11,12]) ⟨[(7,(.ptr 1 2)),(9,(.str s)),(10,(.ptr 1 0)),(14,(.str s)),(17,(.sl 4 0 1 1 false))],[(0,(.row [(.ptr 1 0)] 32)),(1,(.row [(.int .i64 kind),(.int .i64 count),(.map 2)] 91)),(2,(.mm (A7 ps) none 93 4)),(4,(.row [(.int .i64 o.id),(.bool o.own),(.int .i64 o.op),(.str o.evr)] 93))],5⟩ ?_ (fun m1_19=>?_)
 ·refine De (fuel:=5) [] [6,7] [7,9,12,14,17] A2 ?_
  refine Cp 3 8 (by kernel_rfl) ?_ ?_
  ·refine Bd (fuel:=4) 3 [] A2 ?_
   refine Az [8,9,12,14,17] ?_
   exact Bg m1_12
  ·refine Bd (fuel:=4) 8 [] A2 ?_
   refine Az [7,9,13,14,17] ?_
   exact Bg m1_14
 refine Cn true 7 (lsD 15 [4,5,6,7,8,9,11,12]) ⟨[(2,(.ptr 0 0)),(9,(.str s)),(13,(.map 2)),(14,(.str s)),(17,(.sl 4 0 1 1 false))],[(0,(.row [(.ptr 1 0)] 32)),(1,(.row [(.int .i64 kind),(.int .i64 count),(.map 2)] 91)),(2,(.mm (A7 ps) none 93 4)),(4,(.row [(.int .i64 o.id),(.bool o.own),(.int .i64 o.op),(.str o.evr)] 93))],5⟩ ?_ (fun m1_20=>?_)
 ·refine Cp 0 10 (by kernel_rfl) ?_ ?_
  ·refine Bd (fuel:=6) 0 [] A2 ?_
   refine Az [5,9,13,14,17] ?_
   refine De (fuel:=4) [] [1,2] [7,9,13,14,17] A2 ?_
   refine Cp 3 10 (by kernel_rfl) ?_ ?_
   ·refine Bd (fuel:=3) 3 [] A2 ?_
    refine Az [8,9,13,14,17] ?_
    exact Bg m1_8
   ·refine Dq (fuel:=3) 10 rfl ?_
    refine Fe (b:=2) (s:=s) (y:=⟨[(7,(.ptr 1 2)),(9,(.str s)),(13,(.map 2)),(14,(.str s)),(17,(.sl 4 0 1 1 false)),(15,(.own 5))],[(0,(.row [(.ptr 1 0)] 32)),(1,(.row [(.int .i64 kind),(.int .i64 count),(.map 2)] 91)),(2,(.mm (A7 ps) (some s) 93 4)),(4,(.row [(.int .i64 o.id),(.bool o.own),(.int .i64 o.op),(.str o.evr)] 93)),(5,(.grow ((A7 ps) s) 93 4))],6⟩) (by kernel_rfl) (by kernel_rfl) (by kernel_rfl) Tryz.underlying89 Tryz.underlying9 (fun _=>by kernel_rfl) (by kernel_rfl) ?_
    refine B5 ⟨rfl,?_⟩
    refine Az [7,9,15,17] ?_
    exact Bg m1_10
  ·refine Dq (fuel:=6) 10 rfl ?_
   refine Fe (b:=2) (s:=s) (y:=⟨[(2,(.ptr 0 0)),(9,(.str s)),(13,(.map 2)),(14,(.str s)),(17,(.sl 4 0 1 1 false)),(15,(.own 5))],[(0,(.row [(.ptr 1 0)] 32)),(1,(.row [(.int .i64 kind),(.int .i64 count),(.map 2)] 91)),(2,(.mm (A7 ps) (some s) 93 4)),(4,(.row [(.int .i64 o.id),(.bool o.own),(.int .i64 o.op),(.str o.evr)] 93)),(5,(.grow ((A7 ps) s) 93 4))],6⟩) (by kernel_rfl) (by kernel_rfl) (by kernel_rfl) Tryz.underlying89 Tryz.underlying9 (fun _=>by kernel_rfl) (by kernel_rfl) ?_
   refine B5 ⟨rfl,?_⟩
   refine Az [2,9,15,17] ?_
   refine Cp 0 13 (by kernel_rfl) ?_ ?_
   ·refine Bd (fuel:=5) 0 [] A2 ?_
    refine Az [5,9,15,17] ?_
    refine De (fuel:=3) [] [1,2] [7,9,15,17] A2 ?_
    refine Cp 3 13 (by kernel_rfl) ?_ ?_
    ·refine Bd (fuel:=2) 3 [] A2 ?_
     refine Az [8,9,15,17] ?_
     exact Bg m1_4
    ·refine Bd (fuel:=2) 13 [] (hold (p:=((((A7 ps) s).length+1)*40≤140737488355328)) (by omega)) ?_
     refine Az [7,9,18] ?_
     exact Bg m1_6
   ·refine Bd (fuel:=5) 13 [] (hold (p:=((((A7 ps) s).length+1)*40≤140737488355328)) (by omega)) ?_
    refine Az [2,9,18] ?_
    refine Dc (fuel:=4) 0 [] A2 ?_
    refine De (fuel:=2) [] [1,2] [7,9,18] A2 ?_
    refine Dc (fuel:=1) 3 [] A2 ?_
    refine Az [8,9,18] ?_
    exact Bg m1_2
 refine Cn true 7 (lsD 15 [0,4,5,6,7,9,11,12]) ⟨[(5,(.ptr 1 0)),(9,(.str s)),(12,(.ptr 1 2)),(14,(.str s)),(17,(.sl 4 0 1 1 false))],[(0,(.row [(.ptr 1 0)] 32)),(1,(.row [(.int .i64 kind),(.int .i64 count),(.map 2)] 91)),(2,(.mm (A7 ps) none 93 4)),(4,(.row [(.int .i64 o.id),(.bool o.own),(.int .i64 o.op),(.str o.evr)] 93))],5⟩ ?_ (fun m1_21=>?_)
 ·refine De (fuel:=5) [] [1,2] [7,9,12,14,17] A2 ?_
  refine Cp 3 8 (by kernel_rfl) ?_ ?_
  ·refine Bd (fuel:=4) 3 [] A2 ?_
   refine Az [8,9,12,14,17] ?_
   exact Bg m1_12
  ·refine Bd (fuel:=4) 8 [] A2 ?_
   refine Az [7,9,13,14,17] ?_
   exact Bg m1_14
 refine De (fuel:=12) [] [4,9,11] [2,9,14,16] A2 ?_
 refine Ge 0 5 12 (by kernel_rfl) ?_ ?_ ?_
 ·refine Bd (fuel:=11) 0 [] A2 ?_
  refine Az [2,5,9,14,16] ?_
  refine De (fuel:=9) [] [1,2] [2,7,9,14,16] A2 ?_
  refine Ge 3 5 12 (by kernel_rfl) ?_ ?_ ?_
  ·refine Bd (fuel:=8) 3 [] A2 ?_
   refine Az [2,8,9,14,16] ?_
   refine Cp 5 12 (by kernel_rfl) ?_ ?_
   ·refine Bd (fuel:=7) 5 [] A2 ?_
    refine Az [8,9,10,14,16] ?_
    refine De (fuel:=5) [] [6,7] [8,9,12,14,16] A2 ?_
    refine Cp 8 12 (by kernel_rfl) ?_ ?_
    ·refine Bd (fuel:=4) 8 [] A2 ?_
     refine Az [8,9,13,14,16] ?_
     exact Bg m1_11
    ·refine Bd (fuel:=4) 12 [] A2 ?_
     refine Az [8,9,12,14,17] ?_
     exact Bg m1_12
   ·refine Bd (fuel:=7) 12 [] A2 ?_
    refine Az [2,8,9,14,17] ?_
    exact Bg m1_18
  ·refine Bd (fuel:=8) 5 [] A2 ?_
   refine Az [7,9,10,14,16] ?_
   refine De (fuel:=6) [] [6,7] [7,9,12,14,16] A2 ?_
   refine Ge 3 8 12 (by kernel_rfl) ?_ ?_ ?_
   ·refine Bd (fuel:=5) 3 [] A2 ?_
    refine Az [8,9,12,14,16] ?_
    exact Bg m1_15
   ·refine Bd (fuel:=5) 8 [] A2 ?_
    refine Az [7,9,13,14,16] ?_
    exact Bg m1_16
   ·refine Bd (fuel:=5) 12 [] A2 ?_
    refine Az [7,9,12,14,17] ?_
    exact Bg m1_17
  ·refine Bd (fuel:=8) 12 [] A2 ?_
   refine Az [2,7,9,14,17] ?_
   refine Cp 3 5 (by kernel_rfl) ?_ ?_
   ·refine Bd (fuel:=7) 3 [] A2 ?_
    refine Az [2,8,9,14,17] ?_
    exact Bg m1_18
   ·refine Bd (fuel:=7) 5 [] A2 ?_
    refine Az [7,9,10,14,17] ?_
    exact Bg m1_19
 ·refine Bd (fuel:=11) 5 [] A2 ?_
  refine Az [2,9,10,14,16] ?_
  refine De (fuel:=9) [] [6,7] [2,9,12,14,16] A2 ?_
  refine Ge 0 8 12 (by kernel_rfl) ?_ ?_ ?_
  ·refine Bd (fuel:=8) 0 [] A2 ?_
   refine Az [5,9,12,14,16] ?_
   refine De (fuel:=6) [] [1,2] [7,9,12,14,16] A2 ?_
   refine Ge 3 8 12 (by kernel_rfl) ?_ ?_ ?_
   ·refine Bd (fuel:=5) 3 [] A2 ?_
    refine Az [8,9,12,14,16] ?_
    exact Bg m1_15
   ·refine Bd (fuel:=5) 8 [] A2 ?_
    refine Az [7,9,13,14,16] ?_
    exact Bg m1_16
   ·refine Bd (fuel:=5) 12 [] A2 ?_
    refine Az [7,9,12,14,17] ?_
    exact Bg m1_17
  ·refine Bd (fuel:=8) 8 [] A2 ?_
   refine Az [2,9,13,14,16] ?_
   refine Ge 0 10 12 (by kernel_rfl) ?_ ?_ ?_
   ·refine Bd (fuel:=7) 0 [] A2 ?_
    refine Az [5,9,13,14,16] ?_
    refine De (fuel:=5) [] [1,2] [7,9,13,14,16] A2 ?_
    refine Ge 3 10 12 (by kernel_rfl) ?_ ?_ ?_
    ·refine Bd (fuel:=4) 3 [] A2 ?_
     refine Az [8,9,13,14,16] ?_
     exact Bg m1_11
    ·refine Dq (fuel:=4) 10 rfl ?_
     refine Fe (b:=2) (s:=s) (y:=⟨[(7,(.ptr 1 2)),(9,(.str s)),(13,(.map 2)),(14,(.str s)),(16,(.agg [(.int .i64 o.id),(.bool o.own),(.int .i64 o.op),(.str o.evr)])),(15,(.own 4))],[(0,(.row [(.ptr 1 0)] 32)),(1,(.row [(.int .i64 kind),(.int .i64 count),(.map 2)] 91)),(2,(.mm (A7 ps) (some s) 93 4)),(4,(.grow ((A7 ps) s) 93 4))],5⟩) (by kernel_rfl) (by kernel_rfl) (by kernel_rfl) Tryz.underlying89 Tryz.underlying9 (fun _=>by kernel_rfl) (by kernel_rfl) ?_
     refine B5 ⟨rfl,?_⟩
     refine Az [7,9,15,16] ?_
     exact Bg m1_13
    ·refine Bd (fuel:=4) 12 [] A2 ?_
     refine Az [7,9,13,14,17] ?_
     exact Bg m1_14
   ·refine Dq (fuel:=7) 10 rfl ?_
    refine Fe (b:=2) (s:=s) (y:=⟨[(2,(.ptr 0 0)),(9,(.str s)),(13,(.map 2)),(14,(.str s)),(16,(.agg [(.int .i64 o.id),(.bool o.own),(.int .i64 o.op),(.str o.evr)])),(15,(.own 4))],[(0,(.row [(.ptr 1 0)] 32)),(1,(.row [(.int .i64 kind),(.int .i64 count),(.map 2)] 91)),(2,(.mm (A7 ps) (some s) 93 4)),(4,(.grow ((A7 ps) s) 93 4))],5⟩) (by kernel_rfl) (by kernel_rfl) (by kernel_rfl) Tryz.underlying89 Tryz.underlying9 (fun _=>by kernel_rfl) (by kernel_rfl) ?_
    refine B5 ⟨rfl,?_⟩
    refine Az [2,9,15,16] ?_
    refine Cp 0 12 (by kernel_rfl) ?_ ?_
    ·refine Bd (fuel:=6) 0 [] A2 ?_
     refine Az [5,9,15,16] ?_
     refine De (fuel:=4) [] [1,2] [7,9,15,16] A2 ?_
     refine Cp 3 12 (by kernel_rfl) ?_ ?_
     ·refine Bd (fuel:=3) 3 [] A2 ?_
      refine Az [8,9,15,16] ?_
      exact Bg m1_7
     ·refine Bd (fuel:=3) 12 [] A2 ?_
      refine Az [7,9,15,17] ?_
      exact Bg m1_9
    ·refine Bd (fuel:=6) 12 [] A2 ?_
     refine Az [2,9,15,17] ?_
     refine Cp 0 13 (by kernel_rfl) ?_ ?_
     ·refine Bd (fuel:=5) 0 [] A2 ?_
      refine Az [5,9,15,17] ?_
      refine De (fuel:=3) [] [1,2] [7,9,15,17] A2 ?_
      refine Cp 3 13 (by kernel_rfl) ?_ ?_
      ·refine Bd (fuel:=2) 3 [] A2 ?_
       refine Az [8,9,15,17] ?_
       exact Bg m1_3
      ·refine Bd (fuel:=2) 13 [] (hold (p:=((((A7 ps) s).length+1)*40≤140737488355328)) (by omega)) ?_
       refine Az [7,9,18] ?_
       exact Bg m1_5
     ·refine Bd (fuel:=5) 13 [] (hold (p:=((((A7 ps) s).length+1)*40≤140737488355328)) (by omega)) ?_
      refine Az [2,9,18] ?_
      refine Dc (fuel:=4) 0 [] A2 ?_
      refine De (fuel:=2) [] [1,2] [7,9,18] A2 ?_
      refine Dc (fuel:=1) 3 [] A2 ?_
      refine Az [8,9,18] ?_
      exact Bg m1_1
   ·refine Bd (fuel:=7) 12 [] A2 ?_
    refine Az [2,9,13,14,17] ?_
    exact Bg m1_20
  ·refine Bd (fuel:=8) 12 [] A2 ?_
   refine Az [2,9,12,14,17] ?_
   refine Cp 0 8 (by kernel_rfl) ?_ ?_
   ·refine Bd (fuel:=7) 0 [] A2 ?_
    refine Az [5,9,12,14,17] ?_
    exact Bg m1_21
   ·refine Bd (fuel:=7) 8 [] A2 ?_
    refine Az [2,9,13,14,17] ?_
    exact Bg m1_20
 ·refine Bd (fuel:=11) 12 [] A2 ?_
  refine Az [2,9,14,17] ?_
  refine Cp 0 5 (by kernel_rfl) ?_ ?_
  ·refine Bd (fuel:=10) 0 [] A2 ?_
   refine Az [2,5,9,14,17] ?_
   refine De (fuel:=8) [] [1,2] [2,7,9,14,17] A2 ?_
   refine Cp 3 5 (by kernel_rfl) ?_ ?_
   ·refine Bd (fuel:=7) 3 [] A2 ?_
    refine Az [2,8,9,14,17] ?_
    exact Bg m1_18
   ·refine Bd (fuel:=7) 5 [] A2 ?_
    refine Az [7,9,10,14,17] ?_
    exact Bg m1_19
  ·refine Bd (fuel:=10) 5 [] A2 ?_
   refine Az [2,9,10,14,17] ?_
   refine De (fuel:=8) [] [6,7] [2,9,12,14,17] A2 ?_
   refine Cp 0 8 (by kernel_rfl) ?_ ?_
   ·refine Bd (fuel:=7) 0 [] A2 ?_
    refine Az [5,9,12,14,17] ?_
    exact Bg m1_21
   ·refine Bd (fuel:=7) 8 [] A2 ?_
    refine Az [2,9,13,14,17] ?_
    exact Bg m1_20
theorem Sr (st : PoolT) (hal : st.all.length ≤ 200) (hs : ∀ i, i < st.all.length → (nth st.all i).1.size ≤ 4194304) :
  FnV Tryz.prog 10 [(.fp (Bm st))] (.fp (A4 st)):=by
 refine A5 [.tmp 2] Tryz.func10 rfl Tryz.ntmps10 rfl rfl (fun B F hF=>?_)
 refine Aa [] [0] ?_
 refine Ad ?_
 refine Aa [] [0,14] ?_
 refine Eh (by kernel_rfl) ?_
 refine Ai ?_
 refine Af [] [0,3] [] (hk 1 Q10 (Q5i st)<|hk 3 Q1z (Q5h st)<|hk0) v0 c0 ?_
 refine Ad ?_
 refine Aa [] [0,3,25,26] ?_
 refine A1 ?_
 refine Q40 0 93 4 (y:=⟨[(0,(.fp (Bm st))),(3,(.ptr 2 0)),(25,(.int .i64 ((st.all.length:Int)))),(26,(.int .i64 0))],[(0,(.mm (fun _=>[]) none 93 4)),(1,(.row [(.int .i64 st.kind),(.int .i64 ((st.all.length:Int))),(.map 0)] 91)),(2,(.row [(.ptr 1 0)] 32))],3⟩) (by kernel_rfl) ?_
 refine Bz (fun g y=>∃(i:Nat),i≤st.all.length∧y=⟨[(0,(.fp (Bm st))),(3,(.ptr 2 0)),(25,(.int .i64 ((st.all.length:Int)))),(26,(.int .i64 ((i:Int))))],[(0,(.mm (A7 (Bo st.all i)) none 93 4)),(1,(.row [(.int .i64 st.kind),(.int .i64 ((st.all.length:Int))),(.map 0)] 91)),(2,(.row [(.ptr 1 0)] 32))],3⟩∧g=st.all.length-i) [0,3,25,26] 3 _ (by omega) ⟨0,(by omega),(by kernel_rfl),rfl⟩ ?_
 rintro g1 y1 ⟨i,f1_1,rfl,rfl⟩
 refine Aa [] [0,3,25,26,27] ?_
 refine Ad ?_
 refine A6 (p:=(i:Int) < (st.all.length:Int)) (by kernel_rfl) (fun c1=>?_) (fun c1=>?_)
 ·have hpl:=Xq (l:=st.all) hs i (by omega)
  have hsz:=(nth st.all i).1.sizes
  have hsi:=hs i (by omega)
  have hpv:(nth st.all i).1.provides.length≤4194304:=by have:=D2 (nth st.all i).1.provides;unfold PkgT.depSize at hsz;omega
  have hfl:(nth st.all i).1.files.length≤4194304:=by have:=K1 (nth st.all i).1.files;omega
  refine Ai ?_
  refine Ad ?_
  refine A1 ?_
  refine Aa [] [0,3,4,25,26] ?_
  refine Af [] [0,3,4,5,25,26] [(9,5)] (hk 2 I3 (Je st i (by omega) (hs i (by omega)))<|hk0) v0 c0 ?_
  refine Aa [] [0,3,4,5,8,25,26] ?_
  refine Ad ?_
  refine Ap ?_
  refine Br 7 0 [] [0,3,4,5,8,25,26,37,39,43] [] hk0 v0 c0 ?_
  refine Ht [2,1,0] (f:=44) (cap:=[(.ptr 2 0)]) (al:=[(.str (((nth st.all i).1).name)),(.agg [(.int .i64 ((i:Int))),(.bool true),(.int .i64 2),(.str (((nth st.all i).1).evr))])]) (al':=[(.str (((nth st.all i).1).name)),(.agg [(.int .i64 ((i:Int))),(.bool true),(.int .i64 2),(.str (((nth st.all i).1).evr))]),(.ptr 0 0)]) (r:=(.tup [])) (r':=(.tup [])) (s':=[(0,(.fp (Bm st))),(3,(.ptr 2 0)),(4,(.int .i64 ((i:Int)))),(5,(.fp (Ar ((nth st.all i).1)))),(8,(.fn 44 [] [(.ptr 2 0)])),(25,(.int .i64 ((st.all.length:Int)))),(26,(.int .i64 ((i:Int)))),(37,(.fn 44 [] [(.ptr 2 0)])),(39,(.str (((nth st.all i).1).name))),(43,(.agg [(.int .i64 ((i:Int))),(.bool true),(.int .i64 2),(.str (((nth st.all i).1).evr))])),(44,(.tup []))]) (H:=[(0,(.row [(.ptr 1 0)] 32)),(1,(.row [(.int .i64 st.kind),(.int .i64 ((st.all.length:Int))),(.map 2)] 91)),(2,(.mm (A7 (Bo st.all i)) none 93 4))]) (H':=[(0,(.row [(.ptr 1 0)] 32)),(1,(.row [(.int .i64 st.kind),(.int .i64 ((st.all.length:Int))),(.map 2)] 91)),(2,(.mm (A7 (Bo st.all i++[((nth st.all i).1.name,(⟨(i:Int),true,2,(nth st.all i).1.evr⟩:OfferT))])) none 93 4))]) (h2:=[(0,(.mm (A7 (Bo st.all i++[((nth st.all i).1.name,(⟨(i:Int),true,2,(nth st.all i).1.evr⟩:OfferT))])) none 93 4)),(1,(.row [(.int .i64 st.kind),(.int .i64 ((st.all.length:Int))),(.map 0)] 91)),(2,(.row [(.ptr 1 0)] 32))]) (by kernel_rfl) (by kernel_rfl) (by exact Uj) (by kernel_rfl) (by kernel_rfl) (by kernel_rfl) (by kernel_rfl) (by kernel_rfl) (Sn st.kind (st.all.length:Int) (Bo st.all i) ((nth st.all i).1.name) ⟨(i:Int),true,2,(nth st.all i).1.evr⟩ (Nat.le_trans (Pv _ _) (by first|(simp only[List.length_append];have:=Pj (i:=i) (p:=(nth st.all i).1) (j:=0);have:=Pi (i:=i) (p:=(nth st.all i).1) (j:=0);omega)|omega))) (by kernel_rfl) (by kernel_rfl) (by kernel_rfl) ?_
  refine B5 ?_
  refine Ad ?_
  refine Aa [] [0,3,4,5,8,25,26,46,47,48] ?_
  refine A1 ?_
  refine Bz (fun g y=>∃(j:Nat),j≤(nth st.all i).1.provides.length∧y=⟨[(0,(.fp (Bm st))),(3,(.ptr 2 0)),(4,(.int .i64 ((i:Int)))),(5,(.fp (Ar ((nth st.all i).1)))),(8,(.fn 44 [] [(.ptr 2 0)])),(25,(.int .i64 ((st.all.length:Int)))),(26,(.int .i64 ((i:Int)))),(46,(Ac 5 Ak (((nth st.all i).1).provides))),(47,(.int .i64 (((((nth st.all i).1).provides).length:Int)))),(48,(.int .i64 ((j:Int))))],[(0,(.mm (A7 (Bo st.all i++E8 i (nth st.all i).1 j)) none 93 4)),(1,(.row [(.int .i64 st.kind),(.int .i64 ((st.all.length:Int))),(.map 0)] 91)),(2,(.row [(.ptr 1 0)] 32))],4⟩∧g=(nth st.all i).1.provides.length-j) [0,3,4,5,8,25,26,46,47,48] 4 _ (by omega) ⟨0,(by omega),(by kernel_rfl),rfl⟩ ?_
  rintro g2 y2 ⟨j,f2_1,rfl,rfl⟩
  refine Aa [] [0,3,4,5,8,25,26,46,47,48,49] ?_
  refine Ad ?_
  refine A6 (p:=(j:Int) < ((((nth st.all i).1).provides).length:Int)) (by kernel_rfl) (fun c2=>?_) (fun c2=>?_)
  ·refine Ai ?_
   refine Ad ?_
   refine A1 ?_
   refine Af [] [0,3,4,5,8,10,25,26,46,47,48] [] hk0 v0 (cc 0 (p:=(0≤(j:Int)∧j < (((nth st.all i).1).provides).length)) (by omega)<|c0) ?_
   refine Ap ?_
   refine Br 9 0 [] [0,3,4,5,8,25,26,46,47,48,52,54,60] [(0,10)] hk0 v0 c0 ?_
   refine Ht [2,1,0] (f:=44) (cap:=[(.ptr 2 0)]) (al:=[(.str ((nth (((nth st.all i).1).provides) j).name)),(.agg [(.int .i64 ((i:Int))),(.bool false),(.int .i64 ((nth (((nth st.all i).1).provides) j).op)),(.str ((nth (((nth st.all i).1).provides) j).evr))])]) (al':=[(.str ((nth (((nth st.all i).1).provides) j).name)),(.agg [(.int .i64 ((i:Int))),(.bool false),(.int .i64 ((nth (((nth st.all i).1).provides) j).op)),(.str ((nth (((nth st.all i).1).provides) j).evr))]),(.ptr 0 0)]) (r:=(.tup [])) (r':=(.tup [])) (s':=[(0,(.fp (Bm st))),(3,(.ptr 2 0)),(4,(.int .i64 ((i:Int)))),(5,(.fp (Ar ((nth st.all i).1)))),(8,(.fn 44 [] [(.ptr 2 0)])),(25,(.int .i64 ((st.all.length:Int)))),(26,(.int .i64 ((i:Int)))),(46,(Ac 5 Ak (((nth st.all i).1).provides))),(47,(.int .i64 (((((nth st.all i).1).provides).length:Int)))),(48,(.int .i64 ((j:Int)))),(52,(.fn 44 [] [(.ptr 2 0)])),(54,(.str ((nth (((nth st.all i).1).provides) j).name))),(60,(.agg [(.int .i64 ((i:Int))),(.bool false),(.int .i64 ((nth (((nth st.all i).1).provides) j).op)),(.str ((nth (((nth st.all i).1).provides) j).evr))])),(61,(.tup []))]) (H:=[(0,(.row [(.ptr 1 0)] 32)),(1,(.row [(.int .i64 st.kind),(.int .i64 ((st.all.length:Int))),(.map 2)] 91)),(2,(.mm (A7 (Bo st.all i++E8 i (nth st.all i).1 j)) none 93 4))]) (H':=[(0,(.row [(.ptr 1 0)] 32)),(1,(.row [(.int .i64 st.kind),(.int .i64 ((st.all.length:Int))),(.map 2)] 91)),(2,(.mm (A7 (Bo st.all i++E8 i (nth st.all i).1 j++[((nth (nth st.all i).1.provides j).name,(⟨(i:Int),false,(nth (nth st.all i).1.provides j).op,(nth (nth st.all i).1.provides j).evr⟩:OfferT))])) none 93 4))]) (h2:=[(0,(.mm (A7 (Bo st.all i++E8 i (nth st.all i).1 j++[((nth (nth st.all i).1.provides j).name,(⟨(i:Int),false,(nth (nth st.all i).1.provides j).op,(nth (nth st.all i).1.provides j).evr⟩:OfferT))])) none 93 4)),(1,(.row [(.int .i64 st.kind),(.int .i64 ((st.all.length:Int))),(.map 0)] 91)),(2,(.row [(.ptr 1 0)] 32))]) (by kernel_rfl) (by kernel_rfl) (by exact Uj) (by kernel_rfl) (by kernel_rfl) (by kernel_rfl) (by kernel_rfl) (by kernel_rfl) (Sn st.kind (st.all.length:Int) (Bo st.all i++E8 i (nth st.all i).1 j) ((nth (nth st.all i).1.provides j).name) ⟨(i:Int),false,(nth (nth st.all i).1.provides j).op,(nth (nth st.all i).1.provides j).evr⟩ (Nat.le_trans (Pv _ _) (by first|(simp only[List.length_append];have:=Pj (i:=i) (p:=(nth st.all i).1) (j:=j);have:=Pi (i:=i) (p:=(nth st.all i).1) (j:=j);omega)|omega))) (by kernel_rfl) (by kernel_rfl) (by kernel_rfl) ?_
   refine B5 ?_
   refine Ap ?_
   refine Av 0 [] [0,3,4,5,8,25,26,46,47,48] [] hk0 v0 (cc 0 (p:=(-9223372036854775808≤(j:Int)+1∧(j:Int)+1≤9223372036854775807)) (by omega)<|c0) ?_
   refine⟨by kernel_rfl,_,?_,j+1,?_,(Eq.trans (b:=(⟨[(0,(.fp (Bm st))),(3,(.ptr 2 0)),(4,(.int .i64 ((i:Int)))),(5,(.fp (Ar ((nth st.all i).1)))),(8,(.fn 44 [] [(.ptr 2 0)])),(25,(.int .i64 ((st.all.length:Int)))),(26,(.int .i64 ((i:Int)))),(46,(Ac 5 Ak (((nth st.all i).1).provides))),(47,(.int .i64 (((((nth st.all i).1).provides).length:Int)))),(48,(.int .i64 ((j:Int)+1)))],[(0,(.mm (A7 (Bo st.all i++E8 i (nth st.all i).1 j++[((nth (nth st.all i).1.provides j).name,(⟨(i:Int),false,(nth (nth st.all i).1.provides j).op,(nth (nth st.all i).1.provides j).evr⟩:OfferT))])) none 93 4)),(1,(.row [(.int .i64 st.kind),(.int .i64 ((st.all.length:Int))),(.map 0)] 91)),(2,(.row [(.ptr 1 0)] 32))],4⟩:St)) (by kernel_rfl) (by rw[Q7z (by omega),←List.append_assoc]<;>kernel_rfl)),rfl⟩
   ·omega
   ·omega
  ·refine Bt ?_
   refine Aa [] [0,3,4,8,25,26,64,65,66] ?_
   refine A1 ?_
   refine Bz (fun g y=>∃(j:Nat),j≤(nth st.all i).1.files.length∧y=⟨[(0,(.fp (Bm st))),(3,(.ptr 2 0)),(4,(.int .i64 ((i:Int)))),(8,(.fn 44 [] [(.ptr 2 0)])),(25,(.int .i64 ((st.all.length:Int)))),(26,(.int .i64 ((i:Int)))),(64,(C4 (((nth st.all i).1).files))),(65,(.int .i64 (((((nth st.all i).1).files).length:Int)))),(66,(.int .i64 ((j:Int))))],[(0,(.mm (A7 (Bo st.all i++Er i (nth st.all i).1 j)) none 93 4)),(1,(.row [(.int .i64 st.kind),(.int .i64 ((st.all.length:Int))),(.map 0)] 91)),(2,(.row [(.ptr 1 0)] 32))],4⟩∧g=(nth st.all i).1.files.length-j) [0,3,4,8,25,26,64,65,66] 4 _ (by omega) ⟨0,(by omega),(Eq.trans (b:=(⟨[(0,(.fp (Bm st))),(3,(.ptr 2 0)),(4,(.int .i64 ((i:Int)))),(8,(.fn 44 [] [(.ptr 2 0)])),(25,(.int .i64 ((st.all.length:Int)))),(26,(.int .i64 ((i:Int)))),(64,(C4 (((nth st.all i).1).files))),(65,(.int .i64 (((((nth st.all i).1).files).length:Int)))),(66,(.int .i64 0))],[(0,(.mm (A7 (Bo st.all i++E8 i (nth st.all i).1 j)) none 93 4)),(1,(.row [(.int .i64 st.kind),(.int .i64 ((st.all.length:Int))),(.map 0)] 91)),(2,(.row [(.ptr 1 0)] 32))],4⟩:St)) (by kernel_rfl) (by rw[show Er i (nth st.all i).1 0=E8 i (nth st.all i).1 (nth st.all i).1.provides.length from by simp[Er],show(nth st.all i).1.provides.length=j from by omega]<;>kernel_rfl)),rfl⟩ ?_
   rintro g3 y3 ⟨j,f3_1,rfl,rfl⟩
   refine Aa [] [0,3,4,8,25,26,64,65,66,67] ?_
   refine Ad ?_
   refine A6 (p:=(j:Int) < ((((nth st.all i).1).files).length:Int)) (by kernel_rfl) (fun c3=>?_) (fun c3=>?_)
   ·refine Ai ?_
    refine Ad ?_
    refine A1 ?_
    refine Af [] [0,3,4,8,12,25,26,64,65,66] [] hk0 v0 (cc 0 (p:=(0≤(j:Int)∧j < (((nth st.all i).1).files).length)) (by omega)<|c0) ?_
    refine Ap ?_
    refine Br 4 0 [] [0,3,4,8,25,26,64,65,66,70,71,73] [] hk0 v0 c0 ?_
    refine Ht [2,1,0] (f:=44) (cap:=[(.ptr 2 0)]) (al:=[(.str (nth (((nth st.all i).1).files) j)),(.agg [(.int .i64 ((i:Int))),(.bool false),(.int .i64 0),(.str [])])]) (al':=[(.str (nth (((nth st.all i).1).files) j)),(.agg [(.int .i64 ((i:Int))),(.bool false),(.int .i64 0),(.str [])]),(.ptr 0 0)]) (r:=(.tup [])) (r':=(.tup [])) (s':=[(0,(.fp (Bm st))),(3,(.ptr 2 0)),(4,(.int .i64 ((i:Int)))),(8,(.fn 44 [] [(.ptr 2 0)])),(25,(.int .i64 ((st.all.length:Int)))),(26,(.int .i64 ((i:Int)))),(64,(C4 (((nth st.all i).1).files))),(65,(.int .i64 (((((nth st.all i).1).files).length:Int)))),(66,(.int .i64 ((j:Int)))),(70,(.fn 44 [] [(.ptr 2 0)])),(71,(.str (nth (((nth st.all i).1).files) j))),(73,(.agg [(.int .i64 ((i:Int))),(.bool false),(.int .i64 0),(.str [])])),(74,(.tup []))]) (H:=[(0,(.row [(.ptr 1 0)] 32)),(1,(.row [(.int .i64 st.kind),(.int .i64 ((st.all.length:Int))),(.map 2)] 91)),(2,(.mm (A7 (Bo st.all i++Er i (nth st.all i).1 j)) none 93 4))]) (H':=[(0,(.row [(.ptr 1 0)] 32)),(1,(.row [(.int .i64 st.kind),(.int .i64 ((st.all.length:Int))),(.map 2)] 91)),(2,(.mm (A7 (Bo st.all i++Er i (nth st.all i).1 j++[(nth (nth st.all i).1.files j,(⟨(i:Int),false,0,[]⟩:OfferT))])) none 93 4))]) (h2:=[(0,(.mm (A7 (Bo st.all i++Er i (nth st.all i).1 j++[(nth (nth st.all i).1.files j,(⟨(i:Int),false,0,[]⟩:OfferT))])) none 93 4)),(1,(.row [(.int .i64 st.kind),(.int .i64 ((st.all.length:Int))),(.map 0)] 91)),(2,(.row [(.ptr 1 0)] 32))]) (by kernel_rfl) (by kernel_rfl) (by exact Uj) (by kernel_rfl) (by kernel_rfl) (by kernel_rfl) (by kernel_rfl) (by kernel_rfl) (Sn st.kind (st.all.length:Int) (Bo st.all i++Er i (nth st.all i).1 j) (nth (nth st.all i).1.files j) ⟨(i:Int),false,0,[]⟩ (Nat.le_trans (Pv _ _) (by first|(simp only[List.length_append];have:=Pj (i:=i) (p:=(nth st.all i).1) (j:=j);have:=Pi (i:=i) (p:=(nth st.all i).1) (j:=j);omega)|omega))) (by kernel_rfl) (by kernel_rfl) (by kernel_rfl) ?_
    refine B5 ?_
    refine Ap ?_
    refine Av 0 [] [0,3,4,8,25,26,64,65,66] [] hk0 v0 (cc 0 (p:=(-9223372036854775808≤(j:Int)+1∧(j:Int)+1≤9223372036854775807)) (by omega)<|c0) ?_
    refine⟨by kernel_rfl,_,?_,j+1,?_,(Eq.trans (b:=(⟨[(0,(.fp (Bm st))),(3,(.ptr 2 0)),(4,(.int .i64 ((i:Int)))),(8,(.fn 44 [] [(.ptr 2 0)])),(25,(.int .i64 ((st.all.length:Int)))),(26,(.int .i64 ((i:Int)))),(64,(C4 (((nth st.all i).1).files))),(65,(.int .i64 (((((nth st.all i).1).files).length:Int)))),(66,(.int .i64 ((j:Int)+1)))],[(0,(.mm (A7 (Bo st.all i++Er i (nth st.all i).1 j++[(nth (nth st.all i).1.files j,(⟨(i:Int),false,0,[]⟩:OfferT))])) none 93 4)),(1,(.row [(.int .i64 st.kind),(.int .i64 ((st.all.length:Int))),(.map 0)] 91)),(2,(.row [(.ptr 1 0)] 32))],4⟩:St)) (by kernel_rfl) (by rw[Q7y (by omega),←List.append_assoc]<;>kernel_rfl)),rfl⟩
    ·omega
    ·omega
   ·refine Bt ?_
    refine Ap ?_
    refine Av 0 [] [0,3,25,26] [] hk0 v0 (cc 0 (p:=(-9223372036854775808≤(i:Int)+1∧(i:Int)+1≤9223372036854775807)) (by omega)<|c0) ?_
    refine⟨by kernel_rfl,_,?_,i+1,?_,(Eq.trans (b:=(⟨[(0,(.fp (Bm st))),(3,(.ptr 2 0)),(25,(.int .i64 ((st.all.length:Int)))),(26,(.int .i64 ((i:Int)+1)))],[(0,(.mm (A7 (Bo st.all i++Er i (nth st.all i).1 j)) none 93 4)),(1,(.row [(.int .i64 st.kind),(.int .i64 ((st.all.length:Int))),(.map 0)] 91)),(2,(.row [(.ptr 1 0)] 32))],3⟩:St)) (by kernel_rfl) (by rw[Xp,show H0 i (nth st.all i).1=Er i (nth st.all i).1 j from by unfold H0;rw[show(nth st.all i).1.files.length=j from by omega]]<;>kernel_rfl)),rfl⟩
    ·omega
    ·omega
 ·refine Bt ?_
  refine Ad ?_
  refine Ap ?_
  refine J6 1 2 (y:=⟨[(0,(.fp (Bm st))),(3,(.ptr 2 0)),(25,(.int .i64 ((st.all.length:Int)))),(26,(.int .i64 ((i:Int)))),(27,(.bool (decide ((i:Int) < (st.all.length:Int)))))],[(1,(.row [(.int .i64 st.kind),(.int .i64 ((st.all.length:Int))),(.smap (.slice none 0 0) (fun kq => .row 4 ((A7 (Bo st.all i)) kq).length (fun ix=>((A7 (Bo st.all i)) kq).getD ix Bp)))] 91)),(2,(.row [(.ptr 1 0)] 32))],3⟩) (by kernel_rfl) ?_
  refine Ey [] [2] ?_
  refine Ah ?_
  refine RK wR [(.fp (.agg [(.int .i64 st.kind),(.int .i64 ((st.all.length:Int))),(.smap (.slice none 0 0) (fun kq => .row 4 ((A7 (Bo st.all i)) kq).length (fun ix=>((A7 (Bo st.all i)) kq).getD ix Bp)))]))] ?_
  rw[show i=st.all.length from by omega]
  exact Same.of_eq rfl
end Sv
end
section
open Go Go.RowKit
namespace Sv
theorem Tr {φ:Phi}:∀{l:List Int} {vs:List Value},VRl φ (l.map (AV.int .i64)) vs→vs=l.map (Value.int .i64)
  |[],vs,h=>h.nil_inv
  |x::l,vs,h=>by
    obtain⟨v,vs',rfl,h1,h2⟩:=h.cons_inv
    simp only[VR] at h1
    rw[Tr h2,h1];rfl
theorem Rp {φ:Phi}:∀l:List Int,VRl φ (l.map (AV.int .i64)) (l.map (Value.int .i64))
  |[] => .nil
  |x::l => .cons (by simp only[VR]) (Rp l)
theorem Qf (l:List Int):(l.map (Value.int .i64)).flatMap (fun u=>u.cells.toList)=l.map (Value.int .i64):=by
  induction l with
  |nil=>rfl
  |cons x l ih=>rw[List.map_cons,List.flatMap_cons,ih];first|done|rfl
theorem Q3b (l:List Int):∀u∈l.map (Value.int .i64),u.cells.size=1∧∀c∈u.cells.toList,c.oneCell'=true:=by
  intro u hu
  obtain⟨x,_,rfl⟩:=List.mem_map.1 hu
  exact⟨rfl,fun c hc=>by simp[Value.cells] at hc;subst hc;rfl⟩
theorem Rel.rebaseI {B:Bas} {φ:Phi} {h:AH} {w:World} (r:Rel B φ h w):Rel (Gu φ h w) φ h w :=
  ⟨⟨rfl,rfl,rfl,Nat.le_refl _,fun _ _=>rfl⟩,r.fro,fun b o e=>by have:=r.obj b o e;cases o<;>exact this,r.sep,fun b o k e i=>⟨fun q=>q.2 b o e i,(r.gf b o k e i).2⟩⟩
theorem U6 (zs:List Int):(Lib.compact zs).length≤zs.length:=by
  have:∀m,(Lib.compactUpTo zs.toArray m).length≤m:=by
    intro m
    induction m with
    |zero=>simp[Lib.compactUpTo]
    |succ m ih =>
      rw[Lib.compactUpTo_succ,List.length_append]
      split<;>simp<;>omega
  exact this _
theorem Q27 (l : List Int) (hl : l.length ≤ 4611686018427) :
    Gf Tryz.prog 123 [.own 0] [(0,.grow (l.map (AV.int .i64)) 3 1)] 1 (.own 0) [(0,.grow ((Lib.compact l).map (AV.int .i64)) 3 1)]:=by
  intro B0 φ w vs r hv
  obtain⟨v,rfl,hv1⟩:=hv.single_inv
  simp only[VR] at hv1
  obtain⟨v0,us,q1,q2,q3,q4⟩:=r.obj 0 _ rfl
  rw[hv1.1] at q1;cases q1
  have hu:=Tr q3
  subst hu
  rw[Qf,List.length_map] at q2
  have hr:=r.rebaseI
  rcases q2.2 with⟨rfl,hn⟩|⟨g,cap,cur,rfl,hg1,hg2,hg3,hg4,hg5,hg6⟩
  · have hl0:l=[]:=List.length_eq_zero_iff.1 hn
    subst hl0
    refine(Tryz.slices_Compact_int_empty none 0 w).mono ?_
    rintro e w' ⟨he,rfl⟩
    exact⟨_,he,φ,hr,by simp only[VR];exact hv1,fun _ _ _ e=>e,fun _ _ e=>e,fun _ _ e => .inl e⟩
  · have hh:Go.Sort.Holds (Value.int .i64) w g 0 l.toArray:=holds_of_blockI hg2 (by simpa using hg6)
    refine(Tryz.slices_Compact_int g 0 cap l w hh (by omega) hg3).mono ?_
    rintro e w' ⟨he,n,rfl⟩
    have hgr:=grownBy_sortedI (w:=w) (g:=g) (n:=n) (os := #[]) (Lib.compact l++List.replicate (l.length-(Lib.compact l).length) 0).toArray
    rw[Go.Sort.grow_empty] at hgr
    have hle:=U6 l
    have hts:(Lib.compact l++List.replicate (l.length-(Lib.compact l).length) (0:Int)).length=l.length:=by simp;omega
    have ho:=ownsRow_sortedI (n:=n) (os := #[]) (base:=0) (ts:=Lib.compact l++List.replicate (l.length-(Lib.compact l).length) 0) (ss:=l) hts hg1 hg2 hg3 hg4 (by simpa using hg5)
    rw[Go.Sort.grow_empty] at ho
    refine⟨_,he,⟨φ.m,fun i=>if i=0 then some (.slice (some ⟨g,0,none⟩) (Lib.compact l).length cap) else φ.s i,φ.f⟩,?_,by simp only[VR];exact⟨rfl,_,_,_,rfl⟩,fun _ _ _ e=>e,fun _ _ e=>e,fun _ _ e => .inl e⟩
    have ht:Turn φ ⟨φ.m,fun i=>if i=0 then some (.slice (some ⟨g,0,none⟩) (Lib.compact l).length cap) else φ.s i,φ.f⟩ 0:=⟨fun _=>rfl,fun c hc=>if_neg hc,fun _ _ e=>e⟩
    refine Rel.grown (v':=.slice (some ⟨g,0,none⟩) (Lib.compact l).length cap) (es':=(Lib.compact l).map (AV.int .i64)) hr (b:=0) rfl hv1.1 ht rfl rfl hgr (.inl rfl) (fun k hk=>by cases hk;exact Nat.lt_of_lt_of_le (Fc hg2) hgr.size) ⟨_,(Lib.compact l).map (Value.int .i64),rfl,?_,Rp _,Q3b _⟩
    rw[Qf,List.length_map]
    refine⟨by simp,.inr ⟨g,cap,Go.Sort.putCells (Value.int .i64) 0 (Lib.compact l++List.replicate (l.length-(Lib.compact l).length) 0).toArray cur,rfl,hg1,?_,by omega,hg4,by simp[Go.Sort.putCells,hg5],?_⟩⟩
    · have:=heap_sortedI (w:=w) (g:=g) (n:=n) (os := #[]) (Lib.compact l++List.replicate (l.length-(Lib.compact l).length) 0).toArray hg2
      rw[Go.Sort.grow_empty] at this;exact this
    · have:=take_putCellsI cur (Lib.compact l++List.replicate (l.length-(Lib.compact l).length) 0) (by rw[hts,hg5];omega)
      have:=congrArg (List.take (Lib.compact l).length) this
      rw[List.take_take,Nat.min_eq_left (by rw[hts];exact hle),List.map_append,List.take_append_of_le_length (by simp),List.take_of_length_le (l:=(Lib.compact l).map (Value.int .i64)) (by simp)] at this
      rw[Nat.mul_one];exact this
end Sv
end
section
open Go Go.RowKit
namespace Sv
attribute [local irreducible] SW SO Bn
set_option maxHeartbeats 1000000
set_option maxRecDepth 100000
theorem X4g:Au Tryz.prog 122:=Ay Tryz.func122 (by kernel_rfl) rfl
theorem Q1t:Au Tryz.prog 56:=Ay Tryz.func56 (by kernel_rfl) rfl
theorem Q2m:Au Tryz.prog 124:=Ay Tryz.func124 (by kernel_rfl) rfl
theorem Qp:Au Tryz.prog 58:=Ay Tryz.func58 (by kernel_rfl) rfl
theorem Us:Au Tryz.prog 123:=Ay Tryz.func123 (by kernel_rfl) rfl
theorem X3s:Au Tryz.prog 170:=Ay Tryz.func170 (by kernel_rfl) rfl
theorem X39:Au Tryz.prog 140:=Ay Tryz.func140 (by kernel_rfl) rfl
theorem Ue:Au Tryz.prog 83:=Ay Tryz.func83 (by kernel_rfl) rfl
theorem Q9g (ps:List (List UInt8 × OfferT)) (s:List UInt8):Imp (.row 4 (A7 ps s).length (fun i=>(A7 ps s).getD i Bp)) (Ac 4 Iv (Cc ps s)):=Imp.list (f:=Iv) (List.length_map _)
def Ih (m:Int→Int→List UInt8→Int→List UInt8→Bool × Int):Prop:=∀k op a o b,a.length≤4194304→b.length≤4194304→FnV Tryz.prog 170 [.int .i64 k,.int .i64 op,.str a,.int .i64 o,.str b] (.tup [.bool (m k op a o b).1,.int .i64 (m k op a o b).2])
def K0 (m:Int→Int→List UInt8→Int→List UInt8→Bool × Int) (k:Int) (d:DepT) (o:OfferT):Bool:=if d.op=0∨o.op=0 then decide (d.op=0) else (m k d.op d.evr o.op o.evr).1
def IdxOk (st:PoolT):Prop:=st.all.length≤200∧∀i,i < st.all.length→(nth st.all i).1.size≤4194304
theorem IdxOk.len {st:PoolT} (h:IdxOk st) (s:List UInt8):(Cc (Bo st.all st.all.length) s).length≤2147483648:=by
 have h1:=Xq h.2 st.all.length (Nat.le_refl _)
 have h2:=Pv (Bo st.all st.all.length) s
 have h3:(A7 (Bo st.all st.all.length) s).length=(Cc (Bo st.all st.all.length) s).length:=List.length_map _
 have:=h.1
 omega
theorem El {α:Type} [Inhabited α] {l:List α} {j:Nat} (h:j < l.length):nth l j=l[j]:=by simp[nth,h]
theorem Q7x {st:PoolT} (h:IdxOk st) {q:List UInt8 × OfferT} (hq:q∈Bo st.all st.all.length):q.2.evr.length≤4194304:=by
 unfold Bo at hq
 obtain⟨i,hi,hq⟩:=List.mem_flatMap.1 hq
 have hi:i < st.all.length:=by simpa using hi
 have h1:=h.2 i hi
 have h2:=(nth st.all i).1.sizes
 unfold H0 Er E8 at hq
 simp only[List.take_length,List.cons_append,List.mem_cons,List.mem_append,List.mem_map] at hq
 rcases hq with rfl|⟨d,hd,rfl⟩|⟨x,hx,rfl⟩
 ·show(nth st.all i).1.evr.length≤_;omega
 ·obtain⟨j,hj,rfl⟩:=List.getElem_of_mem hd
  have h3:=K7 (l:=(nth st.all i).1.provides) (i:=j) hj
  have h4:=E1 (nth (nth st.all i).1.provides j)
  have h5:argsSize (nth st.all i).1.provides≤(nth st.all i).1.depSize:=by unfold PkgT.depSize;omega
  have h6:nth (nth st.all i).1.provides j=(nth st.all i).1.provides[j]:=El hj
  rw[h6] at h3 h4
  show(nth st.all i).1.provides[j].evr.length≤_
  omega
 ·exact Nat.zero_le _
theorem IdxOk.evr {st:PoolT} (h:IdxOk st) {s:List UInt8} {i:Nat} (hi:i < (Cc (Bo st.all st.all.length) s).length):(nth (Cc (Bo st.all st.all.length) s) i).evr.length≤4194304:=by
 have hm:nth (Cc (Bo st.all st.all.length) s) i∈Cc (Bo st.all st.all.length) s:=by
  have:nth (Cc (Bo st.all st.all.length) s) i=(Cc (Bo st.all st.all.length) s)[i]:=by simp[nth,hi]
  rw[this];exact List.getElem_mem hi
 obtain⟨q,hq,e⟩:=List.mem_map.1 hm
 rw[←e];exact Q7x h (List.mem_filter.1 hq).1
def Ix (m:Int→Int→List UInt8→Int→List UInt8→Bool × Int) (st:PoolT) (d:DepT) (own:Bool) (o:OfferT):Bool:=(o.own||!own)&&K0 m st.kind d o
def Dw (m:Int→Int→List UInt8→Int→List UInt8→Bool × Int) (st:PoolT) (d:DepT) (own:Bool) (i:Nat):List Int:=(((Cc (Bo st.all st.all.length) d.name).take i).filter (Ix m st d own)).map fun o=>o.id
def F6 (m:Int→Int→List UInt8→Int→List UInt8→Bool × Int) (st:PoolT) (d:DepT) (own:Bool):List Int:=Lib.compact (Dw m st d own (Cc (Bo st.all st.all.length) d.name).length)
theorem Q0x {m:Int→Int→List UInt8→Int→List UInt8→Bool × Int} {st:PoolT} {d:DepT} {own:Bool} {i:Nat} (h:i < (Cc (Bo st.all st.all.length) d.name).length):Dw m st d own (i+1)=Dw m st d own i++(if Ix m st d own (nth (Cc (Bo st.all st.all.length) d.name) i)=true then [(nth (Cc (Bo st.all st.all.length) d.name) i).id] else []):=by
 unfold Dw
 rw[List.take_add_one,List.getElem?_eq_getElem h,List.filter_append,List.map_append]
 congr 1
 have:nth (Cc (Bo st.all st.all.length) d.name) i=(Cc (Bo st.all st.all.length) d.name)[i]:=by simp[nth,h]
 rw[this]
 cases hc:Ix m st d own (Cc (Bo st.all st.all.length) d.name)[i]<;>simp[hc]
theorem Tu {m:Int→Int→List UInt8→Int→List UInt8→Bool × Int} {st:PoolT} {d:DepT} {own:Bool} {i:Nat}:(Dw m st d own i).length≤(Cc (Bo st.all st.all.length) d.name).length:=by
 unfold Dw
 rw[List.length_map]
 exact Nat.le_trans (List.length_filter_le _ _) (by simp;omega)
theorem X1s {m:Int→Int→List UInt8→Int→List UInt8→Bool × Int} {st:PoolT} {d:DepT} {own:Bool} {i:Nat} (h:i < (Cc (Bo st.all st.all.length) d.name).length) (hc:Ix m st d own (nth (Cc (Bo st.all st.all.length) d.name) i)=true):(Dw m st d own (i+1)).map (AV.int .i64)=(Dw m st d own i).map (AV.int .i64)++[.int .i64 (nth (Cc (Bo st.all st.all.length) d.name) i).id]:=by
 rw[Q0x h,if_pos hc,List.map_append];rfl
theorem X1t {m:Int→Int→List UInt8→Int→List UInt8→Bool × Int} {st:PoolT} {d:DepT} {own:Bool} {i:Nat} (h:i < (Cc (Bo st.all st.all.length) d.name).length) (hc:Ix m st d own (nth (Cc (Bo st.all st.all.length) d.name) i)=false):Dw m st d own (i+1)=Dw m st d own i:=by
 rw[Q0x h,if_neg (by rw[hc];simp),List.append_nil]
theorem Q0l (l : List Int) (a : AV) (p : Int → Bool) (hl : l.length ≤ 4611686018427387904) (ha : ∀ i, i < l.length → FunV Tryz.prog a [(.int .i64 (nth l i))] (.bool (p (nth l i)))) :
  FnV Tryz.prog 124 [(Ag l),(.clo a)] (.int .i64 (B3 p l)):=by
 refine A5 [.tmp 4] Tryz.func124 rfl Tryz.ntmps124 rfl rfl (fun B F hF=>?_)
 refine Aa [] [0,1] ?_
 refine Ad ?_
 refine Aa [] [0,1,7,8] ?_
 refine A1 ?_
 refine Bz (fun g y=>∃(i:Nat),i≤l.length∧(∀j,j < i→p (nth l j)=false)∧y=⟨[(0,(Ag l)),(1,(.clo a)),(7,(.int .i64 ((l.length:Int)))),(8,(.int .i64 ((i:Int))))],[],0⟩∧g=l.length-i) [0,1,7,8] 0 _ (by omega) ⟨0,(by omega),(by exact fun j hj=>by omega),(by kernel_rfl),rfl⟩ ?_
 rintro g1 y1 ⟨i,f1_1,f1_2,rfl,rfl⟩
 refine Aa [] [0,1,7,8,9] ?_
 refine Ad ?_
 refine A6 (p:=(i:Int) < (l.length:Int)) (by kernel_rfl) (fun c1=>?_) (fun c1=>?_)
 ·refine Ai ?_
  refine Ad ?_
  refine A1 ?_
  refine Aa [] [0,1,5,7,8] ?_
  refine Ad ?_
  refine Ap ?_
  refine Br 5 0 [] [0,1,5,7,8,11,15] [] hk0 v0 (cc 3 (p:=(0≤(i:Int)∧i < l.length)) (by omega)<|c0) ?_
  refine Fu (s':=[(0,(Ag l)),(1,(.clo a)),(5,(.int .i64 ((i:Int)))),(7,(.int .i64 ((l.length:Int)))),(8,(.int .i64 ((i:Int)))),(11,(.clo a)),(15,(.int .i64 (nth l i))),(16,(.bool (p (nth l i))))]) (a:=(.clo a)) (al:=[(.int .i64 (nth l i))]) (r:=(.bool (p (nth l i)))) (by kernel_rfl) (by kernel_rfl) (by kernel_rfl) (by kernel_rfl) (by kernel_rfl) ((ha i (by omega)).clo) (by kernel_rfl) ?_
  refine B5 ?_
  refine A8 (q:=p (nth l i)) (by kernel_rfl) (fun c2=>?_) (fun c2=>?_)
  ·try simp only[Ao] at c2
   refine Aa [] [4] ?_
   refine Ah ?_
   refine RK wR [(.int .i64 ((i:Int)))] ?_
   exact Same.of_eq (by rw[Kw (by omega) f1_2 (by simp_all)];rfl)
  ·try simp only[Ao] at c2
   refine Ai ?_
   refine Ap ?_
   refine Av 0 [] [0,1,7,8] [] hk0 v0 (cc 0 (p:=(-9223372036854775808≤(i:Int)+1∧(i:Int)+1≤9223372036854775807)) (by omega)<|c0) ?_
   refine⟨by kernel_rfl,_,?_,i+1,?_,?_,(by kernel_rfl),rfl⟩
   ·omega
   ·omega
   ·intro j hj
    by_cases h:j=i
    ·subst h;simp_all
    ·exact f1_2 j (by omega)
 ·refine Bt ?_
  refine Aa [] [4] ?_
  refine Ah ?_
  refine RK wR [(.int .i64 (-1))] ?_
  exact Same.of_eq (by rw[Kv (fun j hj=>f1_2 j (by omega))];rfl)
theorem Qa (l : List Int) (a : AV) (p : Int → Bool) (hl : l.length ≤ 4611686018427387904) (ha : ∀ i, i < l.length → FunV Tryz.prog a [(.int .i64 (nth l i))] (.bool (p (nth l i)))) :
  FnV Tryz.prog 58 [(Ag l),(.clo a)] (.bool (l.any p)):=by
 refine A5 [.tmp 4] Tryz.func58 rfl Tryz.ntmps58 rfl rfl (fun B F hF=>?_)
 refine Aa [] [0,1] ?_
 refine Af [] [4] [] (hk 2 Q2m (Q0l l a p hl ha)<|hk0) v0 c0 ?_
 refine Ah ?_
 refine RK wR [(.bool (decide (0≤(B3 p l))))] ?_
 exact Same.of_eq (by simp only[An];rw[Kx])
theorem X2d (m : Int → Int → List UInt8 → Int → List UInt8 → Bool × Int) (hM : Ih m) (st : PoolT) (d : DepT) (o : OfferT) (hd : d.size ≤ 4194304) (ho : o.evr.length ≤ 4194304) :
  FnV Tryz.prog 122 [(.fp (A4 st)),(.agg [(.int .i64 d.kind),(.str d.name),(.int .i64 d.op),(.str d.evr),(.row 5 d.args.length (depAt d.args))]),(.agg [(.int .i64 o.id),(.bool o.own),(.int .i64 o.op),(.str o.evr)])] (.bool (K0 m st.kind d o)):=by
 have hda:=E1 d
 refine A5 [.tmp 6] Tryz.func122 rfl Tryz.ntmps122 rfl rfl (fun B F hF=>?_)
 refine Af [] [0,4,5] [(1,4),(2,5)] hk0 v0 c0 ?_
 refine Ad ?_
 obtain⟨b1,hb1⟩:∃b,b=(decide (d.op=0)):=⟨_,rfl⟩
 refine Af (CS:=[(5,((!b1)=true→(!b1)=true)),(6,((!b1)=true→(!b1)=true)),(7,(b1=false→(!b1)=true))]) [13,14,15] [0,4,5,16] [] hk0 (vk 4 12 (a:=.bool (decide (d.op=0))) (b:=.bool b1) (Imp.of_eq (by rw[hb1]))<|v0) (by refine cc _ ?_<|cc _ ?_<|cc _ ?_ c0<;>simp) ?_
 refine A8 (q:=b1||(decide (o.op=0))) (by kernel_rfl) (fun c1=>?_) (fun c1=>?_)
 ·subst hb1
  try simp only[Ao] at c1
  refine Aa [] [6] ?_
  refine Ah ?_
  refine RK wR [(.bool (decide (d.op=0)))] ?_
  exact Same.of_eq (by simp only[An];unfold K0;rw[if_pos (by simpa using c1)])
 ·subst hb1
  try simp only[Ao] at c1
  refine Ai ?_
  refine C2 [] [7] [] (hk 12 X3s (hM st.kind d.op d.evr o.op o.evr (by omega) ho)<|hk0) v0 c0 ?_
  refine Aa [] [6] ?_
  refine Ah ?_
  refine RK wR [(.bool ((m st.kind d.op d.evr o.op o.evr).1))] ?_
  exact Same.of_eq (by simp only[An];unfold K0;rw[if_neg (by simpa using c1)])
theorem Zl (m : Int → Int → List UInt8 → Int → List UInt8 → Bool × Int) (hM : Ih m) (st : PoolT) (hi : IdxOk st) (d : DepT) (own : Bool) (hd : d.size ≤ 4194304) :
  FnV Tryz.prog 56 [(.fp (A4 st)),(.agg [(.int .i64 d.kind),(.str d.name),(.int .i64 d.op),(.str d.evr),(.row 5 d.args.length (depAt d.args))]),(.bool own)] (Ag (F6 m st d own)):=by
 have hlg:(A7 (Bo st.all st.all.length) d.name).length=(Cc (Bo st.all st.all.length) d.name).length:=List.length_map _
 have hll:=hi.len d.name
 refine A5 [.tmp 6] Tryz.func56 rfl Tryz.ntmps56 rfl rfl (fun B F hF=>?_)
 refine Af [] [0,2,4] [(1,4)] hk0 v0 c0 ?_
 refine Aa [] [0,2,4,7] ?_
 refine Ad ?_
 refine Ad ?_
 refine J4 (by kernel_rfl) (fun F1 hF1=>?_)
 refine De (fuel:=2) [] [0,1,2,3,4,5,8] [0,2,4,7,13,15,18] A2 ?_
 refine Gx (fuel:=1) 6 (by kernel_rfl) ?_
 refine Dq (fuel:=1) 6 rfl ?_
 refine X7i (s:=d.name) (z:=.slice none 0 0) (G:=fun s => .row 4 (A7 (Bo st.all st.all.length) s).length (fun i=>(A7 (Bo st.all st.all.length) s).getD i Bp)) (s':=[(0,(.fp (A4 st))),(2,(.bool own)),(4,(.fp (.agg [(.int .i64 d.kind),(.str d.name),(.int .i64 d.op),(.str d.evr),(.row 5 d.args.length (depAt d.args))]))),(7,.nils),(13,(.smap (.slice none 0 0) (fun s => .row 4 (A7 (Bo st.all st.all.length) s).length (fun i=>(A7 (Bo st.all st.all.length) s).getD i Bp)))),(15,(.str d.name)),(18,(.int .i64 0)),(16,(.row 4 (A7 (Bo st.all st.all.length) d.name).length (fun i=>(A7 (Bo st.all st.all.length) d.name).getD i Bp)))]) (by kernel_rfl) (by kernel_rfl) (by kernel_rfl) Tryz.underlying89 Tryz.underlying9 (fun _=>by kernel_rfl) (by kernel_rfl) ?_
 refine B5 ⟨rfl,?_⟩
 refine De (fuel:=0) [] [7] [0,2,4,7,16,17,18] A2 ?_
 refine Az [0,2,4,7,16,17,18] ?_
 refine Hd (by kernel_rfl) ?_
 refine A1 ?_
 refine Vr 16 (Ac 4 Iv (Cc (Bo st.all st.all.length) d.name)) (by kernel_rfl) (Q9g (Bo st.all st.all.length) d.name) ?_
 refine Mu 3 1 7 (y:=⟨[(0,(.fp (A4 st))),(2,(.bool own)),(4,(.fp (.agg [(.int .i64 d.kind),(.str d.name),(.int .i64 d.op),(.str d.evr),(.row 5 d.args.length (depAt d.args))]))),(7,(.own 1)),(16,(Ac 4 Iv (Cc (Bo st.all st.all.length) d.name))),(17,(.int .i64 (((A7 (Bo st.all st.all.length) d.name).length:Int)))),(18,(.int .i64 0))],[(1,(.grow [] 3 1))],2⟩) (by kernel_rfl) (by kernel_rfl) ?_
 refine Bz (fun g y=>∃(i:Nat),i≤(Cc (Bo st.all st.all.length) d.name).length∧y=⟨[(0,(.fp (A4 st))),(2,(.bool own)),(4,(.fp (.agg [(.int .i64 d.kind),(.str d.name),(.int .i64 d.op),(.str d.evr),(.row 5 d.args.length (depAt d.args))]))),(7,(.own 1)),(16,(Ac 4 Iv (Cc (Bo st.all st.all.length) d.name))),(17,(.int .i64 (((A7 (Bo st.all st.all.length) d.name).length:Int)))),(18,(.int .i64 ((i:Int))))],[(1,(.grow ((Dw m st d own i).map (AV.int .i64)) 3 1))],2⟩∧g=(Cc (Bo st.all st.all.length) d.name).length-i) [0,2,4,7,16,17,18] 2 _ (by omega) ⟨0,(by omega),(by kernel_rfl),rfl⟩ ?_
 rintro g1 y1 ⟨i,f1_1,rfl,rfl⟩
 have hhl:=Tu (m:=m) (st:=st) (d:=d) (own:=own) (i:=i)
 have hhm:((Dw m st d own i).map (AV.int .i64)).length=(Dw m st d own i).length:=List.length_map _
 refine Aa [] [0,2,4,7,16,17,18,19] ?_
 refine Ad ?_
 refine A6 (p:=(i:Int) < ((A7 (Bo st.all st.all.length) d.name).length:Int)) (by kernel_rfl) (fun c1=>?_) (fun c1=>?_)
 ·refine Ai ?_
  refine Ad ?_
  refine A1 ?_
  refine Af [] [0,2,4,7,9,16,17,18] [] hk0 v0 (cc 0 (p:=(0≤(i:Int)∧i < (Cc (Bo st.all st.all.length) d.name).length)) (by omega)<|c0) ?_
  obtain⟨b1,hb1⟩:∃b,b=((nth (Cc (Bo st.all st.all.length) d.name) i).own):=⟨_,rfl⟩
  refine Af (CS:=[(4,((!b1)=true→(!b1)=true)),(5,(b1=false→(!b1)=true)),(10,(b1||(!own))=true→(b1||(!own))=true∧(b1||(!own))=true∧(b1||(!own))=true),(11,((b1||(!own))=true→(b1||(!own))=true))]) [25,26,29,30,31] [0,2,4,7,9,16,17,18,33] [(0,9)] (hkg 10 (b1||(!own)) X4g (fun cg=>X2d m hM st d (nth (Cc (Bo st.all st.all.length) d.name) i) hd (hi.evr (by omega)))<|hk0) (vk 3 24 (a:=.bool ((nth (Cc (Bo st.all st.all.length) d.name) i).own)) (b:=.bool b1) (Imp.of_eq (by rw[hb1]))<|v0) (by refine cc _ ?_<|cc _ ?_<|cc _ ?_<|cc _ ?_ c0<;>simp) ?_
  refine A8 (q:=(b1||(!own))&&(K0 m st.kind d (nth (Cc (Bo st.all st.all.length) d.name) i))) (by kernel_rfl) (fun c2=>?_) (fun c2=>?_)
  ·subst hb1
   try simp only[Ao] at c2
   refine Ap ?_
   refine Av 0 [] [0,2,4,7,16,17,18] [] hk0 v0 (cc 4 (p:=((((Dw m st d own i).map (AV.int .i64)).length+1)*8≤140737488355328)) (by omega)<|c0) ?_
   refine Ap ?_
   refine Av 0 [] [0,2,4,7,16,17,18] [] hk0 v0 (cc 0 (p:=(-9223372036854775808≤(i:Int)+1∧(i:Int)+1≤9223372036854775807)) (by omega)<|c0) ?_
   refine⟨by kernel_rfl,_,?_,i+1,?_,(Eq.trans (b:=(⟨[(0,(.fp (A4 st))),(2,(.bool own)),(4,(.fp (.agg [(.int .i64 d.kind),(.str d.name),(.int .i64 d.op),(.str d.evr),(.row 5 d.args.length (depAt d.args))]))),(7,(.own 1)),(16,(Ac 4 Iv (Cc (Bo st.all st.all.length) d.name))),(17,(.int .i64 (((A7 (Bo st.all st.all.length) d.name).length:Int)))),(18,(.int .i64 ((i:Int)+1)))],[(1,(.grow (((Dw m st d own i).map (AV.int .i64))++([(.int .i64 ((nth (Cc (Bo st.all st.all.length) d.name) i).id))]:List AV)) 3 1))],2⟩:St)) (by kernel_rfl) (by rw[X1s (by omega) (by unfold Ix;simpa using c2)]<;>kernel_rfl)),rfl⟩
   ·omega
   ·omega
  ·subst hb1
   try simp only[Ao] at c2
   refine Ai ?_
   refine Ap ?_
   refine Av 0 [] [0,2,4,7,16,17,18] [] hk0 v0 (cc 0 (p:=(-9223372036854775808≤(i:Int)+1∧(i:Int)+1≤9223372036854775807)) (by omega)<|c0) ?_
   refine⟨by kernel_rfl,_,?_,i+1,?_,(Eq.trans (b:=(⟨[(0,(.fp (A4 st))),(2,(.bool own)),(4,(.fp (.agg [(.int .i64 d.kind),(.str d.name),(.int .i64 d.op),(.str d.evr),(.row 5 d.args.length (depAt d.args))]))),(7,(.own 1)),(16,(Ac 4 Iv (Cc (Bo st.all st.all.length) d.name))),(17,(.int .i64 (((A7 (Bo st.all st.all.length) d.name).length:Int)))),(18,(.int .i64 ((i:Int)+1)))],[(1,(.grow ((Dw m st d own i).map (AV.int .i64)) 3 1))],2⟩:St)) (by kernel_rfl) (by rw[X1t (by omega) (by unfold Ix;simp only[Bool.and_eq_false_iff,Bool.or_eq_false_iff,Bool.not_eq_false'];simpa only [Bool.not_eq_false',Bool.not_eq_eq_eq_not,Bool.not_false] using c2)]<;>kernel_rfl)),rfl⟩
   ·omega
   ·omega
 ·refine Bt ?_
  refine Ad ?_
  refine Ap ?_
  refine Br 1 0 [] [40] [] hk0 v0 c0 ?_
  refine Mx [1] (al:=[(.own 1)]) (al':=[(.own 0)]) (r:=(.own 0)) (r':=(.own 1)) (s':=[(40,Bp),(41,(.own 1))]) (H:=[(0,(.grow ((Dw m st d own i).map (AV.int .i64)) 3 1))]) (H':=[(0,(.grow ((Lib.compact (Dw m st d own i)).map (AV.int .i64)) 3 1))]) (h2:=[(1,(.grow ((Lib.compact (Dw m st d own i)).map (AV.int .i64)) 3 1))]) (by kernel_rfl) (by exact Us) (by kernel_rfl) (by kernel_rfl) (by kernel_rfl) (by kernel_rfl) (by kernel_rfl) (Q27 (Dw m st d own i) (by have:=Tu (m:=m) (st:=st) (d:=d) (own:=own) (i:=i);omega)) (by kernel_rfl) (by kernel_rfl) (by kernel_rfl) ?_
  refine Av 2 [] [6] [] hk0 v0 c0 ?_
  refine Ah ?_
  refine RK wR [(.row 1 ((Lib.compact (Dw m st d own i)).map (AV.int .i64)).length (fun ix=>((Lib.compact (Dw m st d own i)).map (AV.int .i64)).getD ix Bp))] ?_
  rw[show i=(Cc (Bo st.all st.all.length) d.name).length from by omega]
  exact Same.list (f:=AV.int .i64) (List.length_map _)
end Sv
end
section
open Go Go.RowKit
namespace Sv
attribute [local irreducible] SW SO Bn
set_option maxHeartbeats 400000
set_option maxRecDepth 100000
theorem X3t:Au Tryz.prog 169:=Ay Tryz.func169 (by kernel_rfl) rfl
theorem X4i:Au Tryz.prog 120:=Ay Tryz.func120 (by kernel_rfl) rfl
theorem X4l:Au Tryz.prog 117:=Ay Tryz.func117 (by kernel_rfl) rfl
theorem X4k:Au Tryz.prog 118:=Ay Tryz.func118 (by kernel_rfl) rfl
theorem X4j:Au Tryz.prog 119:=Ay Tryz.func119 (by kernel_rfl) rfl
theorem X4h:Au Tryz.prog 121:=Ay Tryz.func121 (by kernel_rfl) rfl
theorem Q1u:Au Tryz.prog 54:=Ay Tryz.func54 (by kernel_rfl) rfl
instance:Inhabited AV:=⟨.nilf⟩
def Gt (q:AV × Bool):AV:=.clo q.1
def Nm (l:List Int) (v:Int):Int:=B3 (fun x=>decide (v=x)) l
theorem X1l (l : List Int) (v : Int) (hl : l.length ≤ 4611686018427387904) :
  FnV Tryz.prog 140 [(Ag l),(.int .i64 v)] (.int .i64 (Nm l v)):=by
 refine A5 [.tmp 4] Tryz.func140 rfl Tryz.ntmps140 rfl rfl (fun B F hF=>?_)
 refine Aa [] [0,1] ?_
 refine Ad ?_
 refine Aa [] [0,1,7,8] ?_
 refine A1 ?_
 refine Bz (fun g y=>∃(i:Nat),i≤l.length∧(∀j,j < i→¬v=nth l j)∧y=⟨[(0,(Ag l)),(1,(.int .i64 v)),(7,(.int .i64 ((l.length:Int)))),(8,(.int .i64 ((i:Int))))],[],0⟩∧g=l.length-i) [0,1,7,8] 0 _ (by omega) ⟨0,(by omega),(by exact fun j hj=>by omega),(by kernel_rfl),rfl⟩ ?_
 rintro g1 y1 ⟨i,f1_1,f1_2,rfl,rfl⟩
 refine Aa [] [0,1,7,8,9] ?_
 refine Ad ?_
 refine A6 (p:=(i:Int) < (l.length:Int)) (by kernel_rfl) (fun c1=>?_) (fun c1=>?_)
 ·refine Ai ?_
  refine Ad ?_
  refine A1 ?_
  refine Aa [] [0,1,5,7,8] ?_
  refine Af [] [0,1,5,7,8,16] [] hk0 v0 (cc 3 (p:=(0≤(i:Int)∧i < l.length)) (by omega)<|c0) ?_
  refine A6 (p:=v=(nth l i)) (by kernel_rfl) (fun c2=>?_) (fun c2=>?_)
  ·refine Aa [] [4] ?_
   refine Ah ?_
   refine RK wR [(.int .i64 ((i:Int)))] ?_
   exact Same.of_eq (by unfold Nm;rw[Kw (p:=fun x=>decide (v=x)) (i:=i) (by omega) (fun j hj=>by simpa using f1_2 j hj) (by simpa using c2)];rfl)
  ·refine Ai ?_
   refine Ap ?_
   refine Av 0 [] [0,1,7,8] [] hk0 v0 (cc 0 (p:=(-9223372036854775808≤(i:Int)+1∧(i:Int)+1≤9223372036854775807)) (by omega)<|c0) ?_
   refine⟨by kernel_rfl,_,?_,i+1,?_,?_,(by kernel_rfl),rfl⟩
   ·omega
   ·omega
   ·intro j hj
    by_cases h:j=i
    ·subst h;assumption
    ·exact f1_2 j (by omega)
 ·refine Bt ?_
  refine Aa [] [4] ?_
  refine Ah ?_
  refine RK wR [(.int .i64 (-1))] ?_
  exact Same.of_eq (by unfold Nm;rw[Kv (p:=fun x=>decide (v=x)) (fun j hj=>by simpa using f1_2 j (by omega))];rfl)
theorem U4 (l : List Int) (v : Int) (hl : l.length ≤ 4611686018427387904) :
  FnV Tryz.prog 83 [(Ag l),(.int .i64 v)] (.bool (l.any fun x=>decide (v=x))):=by
 refine A5 [.tmp 4] Tryz.func83 rfl Tryz.ntmps83 rfl rfl (fun B F hF=>?_)
 refine Aa [] [0,1] ?_
 refine Af [] [4] [] (hk 2 X39 (X1l l v hl)<|hk0) v0 c0 ?_
 refine Ah ?_
 refine RK wR [(.bool (decide (0≤(Nm l v))))] ?_
 exact Same.of_eq (by simp only[An];unfold Nm;rw[Kx])
theorem X13 (l : List (AV × Bool)) (a : AV) (p : (AV × Bool) → Bool) (hl : l.length ≤ 4611686018427387904) (ha : ∀ i, i < l.length → FunV Tryz.prog a [(.clo ((nth l i).1))] (.bool (p (nth l i)))) :
  FnV Tryz.prog 169 [(Ac 1 Gt l),(.clo a)] (.int .i64 (B3 p l)):=by
 refine A5 [.tmp 4] Tryz.func169 rfl Tryz.ntmps169 rfl rfl (fun B F hF=>?_)
 refine Aa [] [0,1] ?_
 refine Ad ?_
 refine Aa [] [0,1,7,8] ?_
 refine A1 ?_
 refine Bz (fun g y=>∃(i:Nat),i≤l.length∧(∀j,j < i→p (nth l j)=false)∧y=⟨[(0,(Ac 1 Gt l)),(1,(.clo a)),(7,(.int .i64 ((l.length:Int)))),(8,(.int .i64 ((i:Int))))],[],0⟩∧g=l.length-i) [0,1,7,8] 0 _ (by omega) ⟨0,(by omega),(by exact fun j hj=>by omega),(by kernel_rfl),rfl⟩ ?_
 rintro g1 y1 ⟨i,f1_1,f1_2,rfl,rfl⟩
 refine Aa [] [0,1,7,8,9] ?_
 refine Ad ?_
 refine A6 (p:=(i:Int) < (l.length:Int)) (by kernel_rfl) (fun c1=>?_) (fun c1=>?_)
 ·refine Ai ?_
  refine Ad ?_
  refine A1 ?_
  refine Aa [] [0,1,5,7,8] ?_
  refine Ad ?_
  refine Ap ?_
  refine Br 5 0 [] [0,1,5,7,8,11,15] [] hk0 v0 (cc 3 (p:=(0≤(i:Int)∧i < l.length)) (by omega)<|c0) ?_
  refine Fu (s':=[(0,(Ac 1 Gt l)),(1,(.clo a)),(5,(.int .i64 ((i:Int)))),(7,(.int .i64 ((l.length:Int)))),(8,(.int .i64 ((i:Int)))),(11,(.clo a)),(15,(.clo ((nth l i).1))),(16,(.bool (p (nth l i))))]) (a:=(.clo a)) (al:=[(.clo ((nth l i).1))]) (r:=(.bool (p (nth l i)))) (by kernel_rfl) (by kernel_rfl) (by kernel_rfl) (by kernel_rfl) (by kernel_rfl) ((ha i (by omega)).clo) (by kernel_rfl) ?_
  refine B5 ?_
  refine A8 (q:=p (nth l i)) (by kernel_rfl) (fun c2=>?_) (fun c2=>?_)
  ·try simp only[Ao] at c2
   refine Aa [] [4] ?_
   refine Ah ?_
   refine RK wR [(.int .i64 ((i:Int)))] ?_
   exact Same.of_eq (by rw[Kw (by omega) f1_2 (by simp_all)];rfl)
  ·try simp only[Ao] at c2
   refine Ai ?_
   refine Ap ?_
   refine Av 0 [] [0,1,7,8] [] hk0 v0 (cc 0 (p:=(-9223372036854775808≤(i:Int)+1∧(i:Int)+1≤9223372036854775807)) (by omega)<|c0) ?_
   refine⟨by kernel_rfl,_,?_,i+1,?_,?_,(by kernel_rfl),rfl⟩
   ·omega
   ·omega
   ·intro j hj
    by_cases h:j=i
    ·subst h;simp_all
    ·exact f1_2 j (by omega)
 ·refine Bt ?_
  refine Aa [] [4] ?_
  refine Ah ?_
  refine RK wR [(.int .i64 (-1))] ?_
  exact Same.of_eq (by rw[Kv (fun j hj=>f1_2 j (by omega))];rfl)
theorem X14 (l : List (AV × Bool)) (a : AV) (p : (AV × Bool) → Bool) (hl : l.length ≤ 4611686018427387904) (ha : ∀ i, i < l.length → FunV Tryz.prog a [(.clo ((nth l i).1))] (.bool (p (nth l i)))) :
  FnV Tryz.prog 120 [(Ac 1 Gt l),(.clo a)] (.bool (l.any p)):=by
 refine A5 [.tmp 4] Tryz.func120 rfl Tryz.ntmps120 rfl rfl (fun B F hF=>?_)
 refine Aa [] [0,1] ?_
 refine Af [] [4] [] (hk 2 X3t (X13 l a p hl ha)<|hk0) v0 c0 ?_
 refine Ah ?_
 refine RK wR [(.bool (decide (0≤(B3 p l))))] ?_
 exact Same.of_eq (by simp only[An];rw[Kx])
theorem X6m (l : List Int) (id : Int) (hl : l.length ≤ 4611686018427387904) :
  FnV Tryz.prog 117 [(.int .i64 id),(.fp (.agg [(Ag l)]))] (.bool (l.any fun x=>decide (id=x))):=by
 refine A5 [.tmp 3] Tryz.func117 rfl Tryz.ntmps117 rfl rfl (fun B F hF=>?_)
 refine Aa [] [0,1] ?_
 refine Af [] [3] [] (hk 2 Ue (U4 l id hl)<|hk0) v0 c0 ?_
 refine Ah ?_
 refine RK wR [(.bool (l.any fun x=>decide (id=x)))] ?_
 exact Same.of_eq (by first|rfl|(simp only[An];simp_all))
theorem X6l (l : List (AV × Bool)) (id : Int) (hl : 2 ≤ l.length) (hf : ∀ i, i < l.length → FunV Tryz.prog (nth l i).1 [.int .i64 id] (.bool (nth l i).2)) :
  FnV Tryz.prog 118 [(.int .i64 id),(.fp (.agg [(Ac 1 Gt l)]))] (.bool ((nth l 0).2&&!(nth l 1).2)):=by
 refine A5 [.tmp 3] Tryz.func118 rfl Tryz.ntmps118 rfl rfl (fun B F hF=>?_)
 refine Aa [] [0,1] ?_
 refine Ad ?_
 refine Ap ?_
 refine Br 4 0 [] [0,1,6,7] [] hk0 v0 (cc 1 (p:=(0≤(0:Int)∧0 < l.length)) (by omega)<|c0) ?_
 refine Fu (s':=[(0,(.int .i64 id)),(1,(.fp (.agg [(Ac 1 Gt l)]))),(6,(.clo ((nth l 0).1))),(7,(.int .i64 id)),(8,(.bool ((nth l 0).2)))]) (a:=(.clo ((nth l 0).1))) (al:=[(.int .i64 id)]) (r:=(.bool ((nth l 0).2))) (by kernel_rfl) (by kernel_rfl) (by kernel_rfl) (by kernel_rfl) (by kernel_rfl) ((hf 0 (by omega)).clo) (by kernel_rfl) ?_
 refine Br 1 5 [] [0,1,9] [] hk0 v0 c0 ?_
 refine Q3 ((nth l 0).2) (fun c1=>?_) (fun c1=>?_)
 ·refine Ft 9 (a:=.bool ((nth l 0).2)) (.bool true) (by kernel_rfl) (Imp.of_eq (by rw[c1])) ?_
  refine Br 4 6 [] [9,12,13] [] hk0 v0 (cc 7 (p:=(0≤(1:Int)∧1 < l.length)) (by omega)<|c0) ?_
  refine Fu (s':=[(9,(.bool true)),(12,(.clo ((nth l 1).1))),(13,(.int .i64 id)),(14,(.bool ((nth l 1).2)))]) (a:=(.clo ((nth l 1).1))) (al:=[(.int .i64 id)]) (r:=(.bool ((nth l 1).2))) (by kernel_rfl) (by kernel_rfl) (by kernel_rfl) (by kernel_rfl) (by kernel_rfl) ((hf 1 (by omega)).clo) (by kernel_rfl) ?_
  refine Av 11 [] [3] [] hk0 v0 c0 ?_
  refine Ah ?_
  refine RK wR [(.bool (!((nth l 1).2)))] ?_
  exact Same.of_eq (by simp only[An];simp_all)
 ·refine Ft 9 (a:=.bool ((nth l 0).2)) (.bool false) (by kernel_rfl) (Imp.of_eq (by rw[c1])) ?_
  refine Av 6 [] [3] [] hk0 v0 c0 ?_
  refine Ah ?_
  refine RK wR [(.bool false)] ?_
  exact Same.of_eq (by simp only[An];simp_all)
theorem X6k (a : AV) (q : Bool) (id : Int) (hf : FunV Tryz.prog a [.int .i64 id] (.bool q)) :
  FnV Tryz.prog 121 [(.clo a),(.fp (.agg [(.int .i64 id)]))] (.bool (!q)):=by
 refine A5 [.tmp 3] Tryz.func121 rfl Tryz.ntmps121 rfl rfl (fun B F hF=>?_)
 refine Aa [] [0,1] ?_
 refine Ad ?_
 refine Ap ?_
 refine Br 2 0 [] [4,5] [] hk0 v0 c0 ?_
 refine Fu (s':=[(4,(.clo a)),(5,(.int .i64 id)),(6,(.bool q))]) (a:=(.clo a)) (al:=[(.int .i64 id)]) (r:=(.bool q)) (by kernel_rfl) (by kernel_rfl) (by kernel_rfl) (by kernel_rfl) (by kernel_rfl) hf.clo (by kernel_rfl) ?_
 refine Av 3 [] [3] [] hk0 v0 c0 ?_
 refine Ah ?_
 refine RK wR [(.bool (!q))] ?_
 exact Same.of_eq (by first|rfl|(simp only[An];simp_all))
theorem X6j (l : List (AV × Bool)) (id : Int) (hl : l.length ≤ 4611686018427387904) (hf : ∀ i, i < l.length → FunV Tryz.prog (nth l i).1 [.int .i64 id] (.bool (nth l i).2)) :
  FnV Tryz.prog 119 [(.int .i64 id),(.fp (.agg [(Ac 1 Gt l)]))] (.bool (!l.any fun q => !q.2)):=by
 refine A5 [.tmp 3] Tryz.func119 rfl Tryz.ntmps119 rfl rfl (fun B F hF=>?_)
 refine Aa [] [1,2] ?_
 refine Ad ?_
 refine Ap ?_
 refine Br 2 0 [] [4,5] [] hk0 v0 c0 ?_
 refine Jd (s':=[(4,(Ac 1 Gt l)),(5,(.fn 121 [] [(.ptr 0 0)])),(6,(.bool (l.any fun q => !q.2)))]) (al:=[(Ac 1 Gt l),(.fn 121 [] [(.ptr 0 0)])]) (al':=[(Ac 1 Gt l),(.fn 121 [] [(.fp (.agg [(.int .i64 id)]))])]) (h':=[]) (r:=(.bool (l.any fun q => !q.2))) (by kernel_rfl) (by exact X4i) (by kernel_rfl) (by kernel_rfl) ((X14 l (.fn 121 [] [.fp (.agg [.int .i64 id])]) (fun q => !q.2) hl (fun i hi=>FunV.of (by exact X4h) (X6k (nth l i).1 (nth l i).2 id (hf i hi)))).of_args (ImpL.cons Imp.refl (ImpL.cons (Imp.clo rfl) ImpL.nil))) rfl (by kernel_rfl) ?_
 refine Av 3 [] [3] [] hk0 v0 c0 ?_
 refine Ah ?_
 refine RK wR [(.bool (!(l.any fun q => !q.2)))] ?_
 exact Same.of_eq (by first|rfl|(simp only[An];simp_all))
end Sv
end
section
open Go Go.RowKit
namespace Sv
attribute [local irreducible] SW SO Bn
set_option maxHeartbeats 1000000
set_option maxRecDepth 100000
noncomputable def B8 (m:Int→Int→List UInt8→Int→List UInt8→Bool × Int) (st:PoolT):Nat→DepT→AV
 |0,_ => .nilf
 |n+1,d=>if d.kind=1 then .fn 117 [] [.fp (.agg [Ag (F6 m st d false)])] else
  if d.kind=6 then .fn 118 [] [.fp (.agg [.row 1 ((d.args.map (B8 m st n)).map AV.clo).length (fun i=>((d.args.map (B8 m st n)).map AV.clo).getD i Bp)])] else
  .fn 119 [] [.fp (.agg [.row 1 ((d.args.map (B8 m st n)).map AV.clo).length (fun i=>((d.args.map (B8 m st n)).map AV.clo).getD i Bp)])]
theorem Q4a {m:Int→Int→List UInt8→Int→List UInt8→Bool × Int} {st:PoolT} {n:Nat} {d:DepT} (h:d.kind=1):B8 m st (n+1) d = .fn 117 [] [.fp (.agg [Ag (F6 m st d false)])]:=by unfold B8;rw[if_pos h]
theorem Q39 {m:Int→Int→List UInt8→Int→List UInt8→Bool × Int} {st:PoolT} {n:Nat} {d:DepT} (h:d.kind=6):B8 m st (n+1) d = .fn 118 [] [.fp (.agg [.row 1 ((d.args.map (B8 m st n)).map AV.clo).length (fun i=>((d.args.map (B8 m st n)).map AV.clo).getD i Bp)])]:=by unfold B8;rw[if_neg (by omega),if_pos h]
theorem Q4b {m:Int→Int→List UInt8→Int→List UInt8→Bool × Int} {st:PoolT} {n:Nat} {d:DepT} (h1:¬d.kind=1) (h6:¬d.kind=6):B8 m st (n+1) d = .fn 119 [] [.fp (.agg [.row 1 ((d.args.map (B8 m st n)).map AV.clo).length (fun i=>((d.args.map (B8 m st n)).map AV.clo).getD i Bp)])]:=by unfold B8;rw[if_neg h1,if_neg h6]
theorem X6h {g:DepT→AV} {l:List DepT} {i:Nat} (h:i < l.length):((l.take (i+1)).map g).map AV.clo=((l.take i).map g).map AV.clo++[.clo (g (nth l i))]:=by
 rw[List.take_add_one,List.getElem?_eq_getElem h,List.map_append,List.map_append]
 simp[nth,h]
theorem X6f (m : Int → Int → List UInt8 → Int → List UInt8 → Bool × Int) (hM : Ih m) (st : PoolT) (hi : IdxOk st) (n : Nat) (d : DepT) (hd : d.size ≤ 4194304) (ih : ∀ i, i < d.args.length → FnV Tryz.prog 54 [(.fp (A4 st)), (.agg [(.int .i64 ((nth d.args i).kind)), (.str ((nth d.args i).name)), (.int .i64 ((nth d.args i).op)), (.str ((nth d.args i).evr)), (.row 5 (nth d.args i).args.length (depAt (nth d.args i).args))])] (.clo (B8 m st n (nth d.args i)))) :
  FnV Tryz.prog 54 [(.fp (A4 st)),(.agg [(.int .i64 d.kind),(.str d.name),(.int .i64 d.op),(.str d.evr),(.row 5 d.args.length (depAt d.args))])] (.clo (B8 m st (n+1) d)):=by
 have hda:=E1 d
 have hal:=D2 d.args
 refine A5 [.tmp 4] Tryz.func54 rfl Tryz.ntmps54 rfl rfl (fun B F hF=>?_)
 refine Af [] [0,3] [(1,3)] hk0 v0 c0 ?_
 refine Ad ?_
 refine Aa [] [0,3,11] ?_
 refine A6 (p:=d.kind=1) (by kernel_rfl) (fun c1=>?_) (fun c1=>?_)
 ·refine Af [] [5] [] (hk 2 Q1t (Zl m hM st hi d false hd)<|hk0) v0 c0 ?_
  refine Aa [] [4] ?_
  refine Ah ?_
  refine RK wR [(.fn 117 [] [(.fp (.agg [(Ag (F6 m st d false))]))])] ?_
  simp only[An]
  rw[Q4a (by assumption)]
  exact(Imp.clo (by kernel_rfl)).same
 ·refine Ai ?_
  refine Aa [] [0,3,6] ?_
  refine Ad ?_
  refine Aa [] [0,3,6,17,18,19] ?_
  refine A1 ?_
  refine Vr 17 (Ac 5 Ak d.args) (by kernel_rfl) (Ho d.args) ?_
  refine Mt 108 1 1 0 (y:=⟨[(0,(.fp (A4 st))),(3,(.fp (.agg [(.int .i64 d.kind),(.str d.name),(.int .i64 d.op),(.str d.evr),(.row 5 d.args.length (depAt d.args))]))),(6,(.ptr 1 0)),(17,(Ac 5 Ak d.args)),(18,(.int .i64 ((d.args.length:Int)))),(19,(.int .i64 0))],[(1,(.row [(.own 2)] 162)),(2,(.grow [] 108 1))],3⟩) (by kernel_rfl) (by kernel_rfl) ?_
  refine Bz (fun g y=>∃(i:Nat),i≤d.args.length∧y=⟨[(0,(.fp (A4 st))),(3,(.fp (.agg [(.int .i64 d.kind),(.str d.name),(.int .i64 d.op),(.str d.evr),(.row 5 d.args.length (depAt d.args))]))),(6,(.ptr 1 0)),(17,(Ac 5 Ak d.args)),(18,(.int .i64 ((d.args.length:Int)))),(19,(.int .i64 ((i:Int))))],[(1,(.row [(.own 2)] 162)),(2,(.grow (((d.args.take i).map (B8 m st n)).map AV.clo) 108 1))],3⟩∧g=d.args.length-i) [0,3,6,17,18,19] 3 _ (by omega) ⟨0,(by omega),(by kernel_rfl),rfl⟩ ?_
  rintro g1 y1 ⟨i,f1_1,rfl,rfl⟩
  have hgl:(((d.args.take i).map (B8 m st n)).map AV.clo).length≤4611686018:=by simp only[List.length_map,List.length_take];omega
  refine Aa [] [0,3,6,17,18,19,20] ?_
  refine Ad ?_
  refine A6 (p:=(i:Int) < (d.args.length:Int)) (by kernel_rfl) (fun c2=>?_) (fun c2=>?_)
  ·refine Ai ?_
   refine D0 (fun y=>y=⟨[(0,(.fp (A4 st))),(3,(.fp (.agg [(.int .i64 d.kind),(.str d.name),(.int .i64 d.op),(.str d.evr),(.row 5 d.args.length (depAt d.args))]))),(6,(.ptr 1 0)),(17,(Ac 5 Ak d.args)),(18,(.int .i64 ((d.args.length:Int)))),(19,(.int .i64 ((i:Int))))],[(1,(.row [(.own 2)] 162)),(2,(.grow (((d.args.take (i+1)).map (B8 m st n)).map AV.clo) 108 1))],3⟩) [0,3,6,17,18,19] 3 (by omega) ?_ ?_
   ·refine A1 ?_
    refine Af [] [0,3,6,8,17,18,19] [] hk0 v0 (cc 0 (p:=(0≤(i:Int)∧i < d.args.length)) (by omega)<|c0) ?_
    refine Re 8 (y:=⟨[(0,(.fp (A4 st))),(3,(.fp (.agg [(.int .i64 d.kind),(.str d.name),(.int .i64 d.op),(.str d.evr),(.row 5 d.args.length (depAt d.args))]))),(6,(.ptr 1 0)),(8,(.fp (.agg [(.int .i64 ((nth d.args i).kind)),(.str ((nth d.args i).name)),(.int .i64 ((nth d.args i).op)),(.str ((nth d.args i).evr)),(.row 5 (nth d.args i).args.length (depAt (nth d.args i).args))]))),(17,(Ac 5 Ak d.args)),(18,(.int .i64 ((d.args.length:Int)))),(19,(.int .i64 ((i:Int))))],[(1,(.row [(.own 2)] 162)),(2,(.grow (((d.args.take i).map (B8 m st n)).map AV.clo) 108 1))],4⟩) (by kernel_rfl) ?_
    refine Hc [] [0,3,6,17,18,19] [] (hk 3 Q1u (ih i (by omega))<|hk0) v0 (cc 5 (p:=(((((d.args.take i).map (B8 m st n)).map AV.clo).length+1)*8≤140737488355328)) (by omega)<|c0) ?_
    refine⟨by kernel_rfl,(Eq.trans (b:=(⟨[(0,(.fp (A4 st))),(3,(.fp (.agg [(.int .i64 d.kind),(.str d.name),(.int .i64 d.op),(.str d.evr),(.row 5 d.args.length (depAt d.args))]))),(6,(.ptr 1 0)),(17,(Ac 5 Ak d.args)),(18,(.int .i64 ((d.args.length:Int)))),(19,(.int .i64 ((i:Int))))],[(1,(.row [(.own 2)] 162)),(2,(.grow ((((d.args.take i).map (B8 m st n)).map AV.clo)++([(.clo (B8 m st n (nth d.args i)))]:List AV)) 108 1))],3⟩:St)) (by kernel_rfl) (by rw[show((((d.args.take i).map (B8 m st n)).map AV.clo)++([(.clo (B8 m st n (nth d.args i)))]:List AV))=((d.args.take (i+1)).map (B8 m st n)).map AV.clo from (X6h (g:=B8 m st n) (l:=d.args) (i:=i) (by omega)).symm]<;>kernel_rfl))⟩
   ·rintro y1 rfl
    refine Ap ?_
    refine Av 0 [] [0,3,6,17,18,19] [] hk0 v0 (cc 0 (p:=(-9223372036854775808≤(i:Int)+1∧(i:Int)+1≤9223372036854775807)) (by omega)<|c0) ?_
    refine⟨by kernel_rfl,_,?_,i+1,?_,(by kernel_rfl),rfl⟩
    ·omega
    ·omega
  ·refine Bt ?_
   refine Ad ?_
   refine Aa [] [6,32] ?_
   refine A6 (p:=d.kind=6) (by kernel_rfl) (fun c3=>?_) (fun c3=>?_)
   ·refine Ad ?_
    refine Ap ?_
    refine J6 1 0 (y:=⟨[(6,(.ptr 1 0)),(32,(.bool (decide (d.kind=6))))],[(1,(.row [(.row 1 (((d.args.take i).map (B8 m st n)).map AV.clo).length (fun ix=>(((d.args.take i).map (B8 m st n)).map AV.clo).getD ix Bp))] 162))],3⟩) (by kernel_rfl) ?_
    refine Ey [] [4] ?_
    refine Ah ?_
    refine RK wR [(.fn 118 [] [(.fp (.agg [(.row 1 (((d.args.take i).map (B8 m st n)).map AV.clo).length (fun ix=>(((d.args.take i).map (B8 m st n)).map AV.clo).getD ix Bp))]))])] ?_
    rw[show i=d.args.length from by omega]
    simp only[An]
    rw[show d.args.take d.args.length=d.args from List.take_length]
    rw[Q39 (by assumption) ]
    exact(Imp.clo (by kernel_rfl)).same
   ·refine Ai ?_
    refine Ad ?_
    refine Ap ?_
    refine J6 1 0 (y:=⟨[(6,(.ptr 1 0)),(32,(.bool (decide (d.kind=6))))],[(1,(.row [(.row 1 (((d.args.take i).map (B8 m st n)).map AV.clo).length (fun ix=>(((d.args.take i).map (B8 m st n)).map AV.clo).getD ix Bp))] 162))],3⟩) (by kernel_rfl) ?_
    refine Ey [] [4] ?_
    refine Ah ?_
    refine RK wR [(.fn 119 [] [(.fp (.agg [(.row 1 (((d.args.take i).map (B8 m st n)).map AV.clo).length (fun ix=>(((d.args.take i).map (B8 m st n)).map AV.clo).getD ix Bp))]))])] ?_
    rw[show i=d.args.length from by omega]
    simp only[An]
    rw[show d.args.take d.args.length=d.args from List.take_length]
    rw[Q4b (by assumption) (by assumption)]
    exact(Imp.clo (by kernel_rfl)).same
theorem X6g (m:Int→Int→List UInt8→Int→List UInt8→Bool × Int) (hM:Ih m) (st:PoolT) (hi:IdxOk st):∀(n:Nat) (d:DepT),d.size≤n→d.size≤4194304→FnV Tryz.prog 54 [(.fp (A4 st)),(.agg [(.int .i64 (d.kind)),(.str (d.name)),(.int .i64 (d.op)),(.str (d.evr)),(.row 5 d.args.length (depAt d.args))])] (.clo (B8 m st n d)):=by
 intro n
 induction n with
 |zero=>intro d h;have:=E1 d;omega
 |succ n ih=>exact fun d h hd=>X6f m hM st hi n d hd fun i hj=>ih _ (by have h1:=Gy hj;omega) (by have h1:=Gy hj;omega)
end Sv
end
section
open Go Go.RowKit
namespace Sv
attribute [local irreducible] SW SO Bn
set_option maxHeartbeats 400000
set_option maxRecDepth 100000
theorem Mj:Au Tryz.prog 60:=Ay Tryz.func60 (by kernel_rfl) rfl
theorem X4f:Au Tryz.prog 125:=Ay Tryz.func125 (by kernel_rfl) rfl
theorem X4e:Au Tryz.prog 126:=Ay Tryz.func126 (by kernel_rfl) rfl
theorem Zn {m:Int→Int→List UInt8→Int→List UInt8→Bool × Int} {st:PoolT} (hi:IdxOk st) {d:DepT} {own:Bool}:(F6 m st d own).length≤4611686018427387904:=by
 have h1:=U6 (Dw m st d own (Cc (Bo st.all st.all.length) d.name).length)
 have h2:=Tu (m:=m) (st:=st) (d:=d) (own:=own) (i:=(Cc (Bo st.all st.all.length) d.name).length)
 have h3:=hi.len d.name
 unfold F6;omega
def woB:Nat→DepT→Bool
 |0,_=>true
 |n+1,d=>(!(decide (d.kind=6)||decide (d.kind=4))||decide (2≤d.args.length))&&d.args.all (woB n)
def Dp (m:Int→Int→List UInt8→Int→List UInt8→Bool × Int) (st:PoolT):Nat→DepT→Int→Bool
 |0,_,_=>false
 |n+1,d,id=>if d.kind=1 then (F6 m st d false).any fun x=>decide (id=x) else
  if d.kind=6 then Dp m st n (nth d.args 0) id&&!Dp m st n (nth d.args 1) id else !(d.args.any fun a => !Dp m st n a id)
theorem Wb {n:Nat} {d:DepT} (h:woB (n+1) d=true) (hk:d.kind=6∨d.kind=4):2≤d.args.length:=by
 unfold woB at h
 simp only[Bool.and_eq_true,Bool.or_eq_true,Bool.not_eq_true',Bool.or_eq_false_iff,decide_eq_true_eq,decide_eq_false_iff_not] at h
 rcases h.1 with h|h
 ·omega
 ·exact h
theorem Wc {n:Nat} {d:DepT} (h:woB (n+1) d=true) {i:Nat} (hi:i < d.args.length):woB n (nth d.args i)=true:=by
 unfold woB at h
 simp only[Bool.and_eq_true,List.all_eq_true] at h
 exact h.2 _ (by rw[El hi];exact List.getElem_mem hi)
theorem Q3a (g:DepT→AV) (q:DepT→Bool) (l:List DepT):Imp (.row 1 ((l.map g).map AV.clo).length (fun i=>((l.map g).map AV.clo).getD i Bp)) (Ac 1 Gt (l.map fun a=>(g a,q a))):=by
 have e:(l.map g).map AV.clo=(l.map fun a=>(g a,q a)).map Gt:=by rw[List.map_map,List.map_map];rfl
 rw[e];exact Imp.list (f:=Gt) (List.length_map _)
theorem Py {α β:Type} [Inhabited α] [Inhabited β] {g:α→β} {l:List α} {i:Nat} (h:i < l.length):nth (l.map g) i=g (nth l i):=by simp[nth,h]
theorem X6i (m:Int→Int→List UInt8→Int→List UInt8→Bool × Int) (hM:Ih m) (st:PoolT) (hi:IdxOk st) (id:Int):∀(n:Nat) (d:DepT),d.size≤n→d.size≤4194304→woB n d=true→FunV Tryz.prog (B8 m st n d) [.int .i64 id] (.bool (Dp m st n d id)):=by
 intro n
 induction n with
 |zero=>intro d h;have:=E1 d;omega
 |succ n ih =>
  intro d h hd hw
  have hsa:=E1 d
  have hal:=D2 d.args
  have hf:∀i,i < (d.args.map fun a=>(B8 m st n a,Dp m st n a id)).length→FunV Tryz.prog (nth (d.args.map fun a=>(B8 m st n a,Dp m st n a id)) i).1 [.int .i64 id] (.bool (nth (d.args.map fun a=>(B8 m st n a,Dp m st n a id)) i).2):=by
   intro i hj
   have hj:i < d.args.length:=by simpa using hj
   rw[Py hj]
   have h1:=Gy hj
   exact ih _ (by omega) (by omega) (Wc hw hj)
  by_cases h1:d.kind=1
  ·rw[Q4a h1]
   have e:Dp m st (n+1) d id=(F6 m st d false).any fun x=>decide (id=x):=by unfold Dp;rw[if_pos h1]
   rw[e]
   exact FunV.of (by exact X4l) (X6m (F6 m st d false) id (Zn hi))
  ·by_cases h6:d.kind=6
   ·have h2:=Wb hw (.inl h6)
    rw[Q39 h6]
    have e:Dp m st (n+1) d id=((nth (d.args.map fun a=>(B8 m st n a,Dp m st n a id)) 0).2&&!(nth (d.args.map fun a=>(B8 m st n a,Dp m st n a id)) 1).2):=by
     rw[Py (g:=fun a=>(B8 m st n a,Dp m st n a id)) (l:=d.args) (i:=0) (by omega),Py (g:=fun a=>(B8 m st n a,Dp m st n a id)) (l:=d.args) (i:=1) (by omega)]
     conv=>lhs;unfold Dp
     rw[if_neg h1,if_pos h6]
    rw[e]
    exact FunV.of (by exact X4k) ((X6l (d.args.map fun a=>(B8 m st n a,Dp m st n a id)) id (by simpa using h2) hf).of_args (ImpL.cons Imp.refl (ImpL.cons (Imp.fp (Imp.aggs (ImpL.cons (Q3a _ _ _) ImpL.nil))) ImpL.nil)))
   ·rw[Q4b h1 h6]
    have e:Dp m st (n+1) d id = !((d.args.map fun a=>(B8 m st n a,Dp m st n a id)).any fun q => !q.2):=by
     rw[List.any_map]
     conv=>lhs;unfold Dp
     rw[if_neg h1,if_neg h6];rfl
    rw[e]
    exact FunV.of (by exact X4j) ((X6j (d.args.map fun a=>(B8 m st n a,Dp m st n a id)) id (by rw[List.length_map];omega) hf).of_args (ImpL.cons Imp.refl (ImpL.cons (Imp.fp (Imp.aggs (ImpL.cons (Q3a _ _ _) ImpL.nil))) ImpL.nil)))
def Co (m:Int→Int→List UInt8→Int→List UInt8→Bool × Int) (st:PoolT) (s:List Int):Nat→DepT→Bool
 |0,_=>false
 |n+1,d=>if d.kind=2 then !(d.args.any fun a => !Co m st s n a) else
  if d.kind=3 then d.args.any fun a=>Co m st s n a else
  if d.kind=4 then (if Co m st s n (nth d.args 1)=true then Co m st s n (nth d.args 0) else decide ((d.args.length:Int) < 3)||Co m st s n (nth d.args 2)) else
  s.any fun id=>Dp m st (n+1) d id
end Sv
end
section
open Go Go.RowKit
namespace Sv
attribute [local irreducible] SW SO Bn
set_option maxHeartbeats 1000000
set_option maxRecDepth 100000
theorem X0j {m:Int→Int→List UInt8→Int→List UInt8→Bool × Int} {st:PoolT} {s:List Int} {n:Nat} {d:DepT} (h:d.kind=2):Co m st s (n+1) d = !(d.args.any fun a => !Co m st s n a):=by
 conv=>lhs;unfold Co
 rw[if_pos h]
theorem X0h {m:Int→Int→List UInt8→Int→List UInt8→Bool × Int} {st:PoolT} {s:List Int} {n:Nat} {d:DepT} (h:d.kind=3):Co m st s (n+1) d=d.args.any fun a=>Co m st s n a:=by
 conv=>lhs;unfold Co
 rw[if_neg (by omega),if_pos h]
theorem Zu {m:Int→Int→List UInt8→Int→List UInt8→Bool × Int} {st:PoolT} {s:List Int} {n:Nat} {d:DepT} (h:d.kind=4):Co m st s (n+1) d=if Co m st s n (nth d.args 1)=true then Co m st s n (nth d.args 0) else decide ((d.args.length:Int) < 3)||Co m st s n (nth d.args 2):=by
 conv=>lhs;unfold Co
 rw[if_neg (by omega),if_neg (by omega),if_pos h]
theorem X0i {m:Int→Int→List UInt8→Int→List UInt8→Bool × Int} {st:PoolT} {s:List Int} {n:Nat} {d:DepT} (h2:¬d.kind=2) (h3:¬d.kind=3) (h4:¬d.kind=4):Co m st s (n+1) d=s.any fun id=>Dp m st (n+1) d id:=by
 conv=>lhs;unfold Co
 rw[if_neg h2,if_neg h3,if_neg h4]
theorem X0n (st : PoolT) (s : List Int) (a : DepT) (q : Bool) (h : FnV Tryz.prog 60 [(.fp (A4 st)), (.agg [(.int .i64 (a.kind)), (.str (a.name)), (.int .i64 (a.op)), (.str (a.evr)), (.row 5 a.args.length (depAt a.args))]), Ag s] (.bool q)) :
  FnV Tryz.prog 125 [(.agg [(.int .i64 a.kind),(.str a.name),(.int .i64 a.op),(.str a.evr),(.row 5 a.args.length (depAt a.args))]),(.fp (.agg [(.fp (A4 st))])),(.fp (.agg [(Ag s)]))] (.bool (!q)):=by
 refine A5 [.tmp 4] Tryz.func125 rfl Tryz.ntmps125 rfl rfl (fun B F hF=>?_)
 refine Af [] [1,2,3] [(1,3)] hk0 v0 c0 ?_
 refine Af [] [4] [] (hk 3 Mj h<|hk0) v0 c0 ?_
 refine Ah ?_
 refine RK wR [(.bool (!q))] ?_
 exact Same.of_eq (by first|rfl|(simp only[An];simp_all))
theorem X0m (st : PoolT) (s : List Int) (a : DepT) (q : Bool) (h : FnV Tryz.prog 60 [(.fp (A4 st)), (.agg [(.int .i64 (a.kind)), (.str (a.name)), (.int .i64 (a.op)), (.str (a.evr)), (.row 5 a.args.length (depAt a.args))]), Ag s] (.bool q)) :
  FnV Tryz.prog 126 [(.agg [(.int .i64 a.kind),(.str a.name),(.int .i64 a.op),(.str a.evr),(.row 5 a.args.length (depAt a.args))]),(.fp (.agg [(.fp (A4 st))])),(.fp (.agg [(Ag s)]))] (.bool q):=by
 refine A5 [.tmp 4] Tryz.func126 rfl Tryz.ntmps126 rfl rfl (fun B F hF=>?_)
 refine Af [] [1,2,3] [(1,3)] hk0 v0 c0 ?_
 refine Af [] [4] [] (hk 3 Mj h<|hk0) v0 c0 ?_
 refine Ah ?_
 refine RK wR [(.bool q)] ?_
 exact Same.of_eq (by first|rfl|(simp only[An];simp_all))
theorem X0c (m : Int → Int → List UInt8 → Int → List UInt8 → Bool × Int) (hM : Ih m) (st : PoolT) (hi : IdxOk st) (s : List Int) (hs : s.length ≤ 4611686018427387904) (n : Nat) (d : DepT) (hd : d.size ≤ 4194304) (hn : d.size ≤ n + 1) (hw : woB (n + 1) d = true) (ih : ∀ i, i < d.args.length → FnV Tryz.prog 60 [(.fp (A4 st)), (.agg [(.int .i64 ((nth d.args i).kind)), (.str ((nth d.args i).name)), (.int .i64 ((nth d.args i).op)), (.str ((nth d.args i).evr)), (.row 5 (nth d.args i).args.length (depAt (nth d.args i).args))]), Ag s] (.bool (Co m st s n (nth d.args i)))) :
  FnV Tryz.prog 60 [(.fp (A4 st)),(.agg [(.int .i64 d.kind),(.str d.name),(.int .i64 d.op),(.str d.evr),(.row 5 d.args.length (depAt d.args))]),(Ag s)] (.bool (Co m st s (n+1) d)):=by
 have hda:=E1 d
 have hal:=D2 d.args
 refine A5 [.tmp 6] Tryz.func60 rfl Tryz.ntmps60 rfl rfl (fun B F hF=>?_)
 refine Ad ?_
 refine Ap ?_
 refine Ft 1 (.agg [(.int .i64 d.kind),(.str d.name),(.int .i64 d.op),(.str d.evr),(Ac 5 Ak d.args)]) (by kernel_rfl) (X41 d) ?_
 refine Av 0 [] [3,4,5] [(2,4)] hk0 v0 c0 ?_
 refine Aa [] [3,4,5,7] ?_
 refine Ad ?_
 refine Aa [] [3,4,5,7,10] ?_
 refine A1 ?_
 refine Aa [] [3,4,5,7,10,11] ?_
 refine A6 (p:=d.kind=2) (by kernel_rfl) (fun c1=>?_) (fun c1=>?_)
 ·refine Ad ?_
  refine Ap ?_
  refine Br 3 0 [] [14,15] [] hk0 v0 c0 ?_
  refine Jd (s':=[(14,(Ac 5 Ak d.args)),(15,(.fn 125 [] [(.ptr 0 0),(.ptr 2 0)])),(16,(.bool (d.args.any fun a => !Co m st s n a)))]) (al:=[(Ac 5 Ak d.args),(.fn 125 [] [(.ptr 0 0),(.ptr 2 0)])]) (al':=[(Ac 5 Ak d.args),(.fn 125 [] [(.fp (.agg [(.fp (A4 st))])),(.fp (.agg [(Ag s)]))])]) (h':=[]) (r:=(.bool (d.args.any fun a => !Co m st s n a))) (by kernel_rfl) (by exact Qm) (by kernel_rfl) (by kernel_rfl) ((Qx d.args (.fn 125 [] [.fp (.agg [.fp (A4 st)]),.fp (.agg [Ag s])]) (fun a => !Co m st s n a) (by omega) (fun i hj=>FunV.of (by exact X4f) (X0n st s (nth d.args i) (Co m st s n (nth d.args i)) (ih i hj)))).of_args (ImpL.cons Imp.refl (ImpL.cons (Imp.clo (by kernel_rfl)) ImpL.nil))) rfl (by kernel_rfl) ?_
  refine Av 4 [] [6] [] hk0 v0 c0 ?_
  refine Ah ?_
  refine RK wR [(.bool (!(d.args.any fun a => !Co m st s n a)))] ?_
  exact Same.of_eq (by simp only[An];rw[X0j (by assumption)])
 ·refine Aa [] [3,4,5,10,18] ?_
  refine A6 (p:=d.kind=3) (by kernel_rfl) (fun c2=>?_) (fun c2=>?_)
  ·refine Ad ?_
   refine Ap ?_
   refine Br 3 0 [] [21,22] [] hk0 v0 c0 ?_
   refine Jd (s':=[(21,(Ac 5 Ak d.args)),(22,(.fn 126 [] [(.ptr 0 0),(.ptr 2 0)])),(23,(.bool (d.args.any fun a=>Co m st s n a)))]) (al:=[(Ac 5 Ak d.args),(.fn 126 [] [(.ptr 0 0),(.ptr 2 0)])]) (al':=[(Ac 5 Ak d.args),(.fn 126 [] [(.fp (.agg [(.fp (A4 st))])),(.fp (.agg [(Ag s)]))])]) (h':=[]) (r:=(.bool (d.args.any fun a=>Co m st s n a))) (by kernel_rfl) (by exact Qm) (by kernel_rfl) (by kernel_rfl) ((Qx d.args (.fn 126 [] [.fp (.agg [.fp (A4 st)]),.fp (.agg [Ag s])]) (fun a=>Co m st s n a) (by omega) (fun i hj=>FunV.of (by exact X4e) (X0m st s (nth d.args i) (Co m st s n (nth d.args i)) (ih i hj)))).of_args (ImpL.cons Imp.refl (ImpL.cons (Imp.clo (by kernel_rfl)) ImpL.nil))) rfl (by kernel_rfl) ?_
   refine Av 4 [] [6] [] hk0 v0 c0 ?_
   refine Ah ?_
   refine RK wR [(.bool (d.args.any fun a=>Co m st s n a))] ?_
   exact Same.of_eq (by simp only[An];rw[X0h (by assumption)])
  ·refine Aa [] [3,4,5,24] ?_
   refine A6 (p:=d.kind=4) (by kernel_rfl) (fun c3=>?_) (fun c3=>?_)
   ·have h2:=Wb hw (.inr c3)
    refine Ad ?_
    refine C2 [] [3,4,5,32] [] (hk 6 Mj (ih 1 (by omega))<|hk0) v0 (cc 3 (p:=(0≤(1:Int)∧1 < d.args.length)) (by omega)<|c0) ?_
    refine A8 (q:=Co m st s n (nth d.args 1)) (by kernel_rfl) (fun c4=>?_) (fun c4=>?_)
    ·try simp only[Ao] at c4
     refine C2 [] [6] [] (hk 6 Mj (ih 0 (by omega))<|hk0) v0 (cc 3 (p:=(0≤(0:Int)∧0 < d.args.length)) (by omega)<|c0) ?_
     refine Ah ?_
     refine RK wR [(.bool (Co m st s n (nth d.args 0)))] ?_
     exact Same.of_eq (by simp only[An];rw[Zu (by assumption),if_pos (by assumption)])
    ·try simp only[Ao] at c4
     refine Ai ?_
     refine C2 (CS:=[(7,((!(decide ((d.args.length:Int) < 3)))=true→(!(decide ((d.args.length:Int) < 3)))=true)),(8,((!(decide ((d.args.length:Int) < 3)))=true→((!(decide ((d.args.length:Int) < 3)))=true)∧(0≤(2:Int)∧2 < d.args.length))),(9,((!(decide ((d.args.length:Int) < 3)))=true→(!(decide ((d.args.length:Int) < 3)))=true)),(11,(!(decide ((d.args.length:Int) < 3)))=true→(!(decide ((d.args.length:Int) < 3)))=true∧(!(decide ((d.args.length:Int) < 3)))=true∧(!(decide ((d.args.length:Int) < 3)))=true),(12,((decide ((d.args.length:Int) < 3))=false→(!(decide ((d.args.length:Int) < 3)))=true))]) [45,46,47,48,49,50] [6] [] (hkg 11 (!(decide ((d.args.length:Int) < 3))) Mj (fun cg=>ih 2 (by simp at cg;omega))<|hk0) v0 (by refine cc _ ?_<|cc _ ?_<|cc _ ?_<|cc _ ?_<|cc _ ?_ c0<;>first|omega|(simp;omega)|(simp;done)|(intros;simp_all;omega)|(intros;simp_all;done)) ?_
     refine Ah ?_
     refine RK wR [(.bool ((decide ((d.args.length:Int) < 3))||(Co m st s n (nth d.args 2))))] ?_
     exact Same.of_eq (by simp only[An];rw[Zu (by assumption),if_neg (by simp_all)])
   ·refine Ai ?_
    refine C2 [] [6] [] (hk 3 (al:=[(.fp (A4 st)),(.agg [(.int .i64 d.kind),(.str d.name),(.int .i64 d.op),(.str d.evr),(Ac 5 Ak d.args)])]) Q1u ((X6g m hM st hi (n+1) d hn hd).of_args (ImpL.cons Imp.refl (ImpL.cons (Q2z d) ImpL.nil)))<|hk 4 Qp (Qa s (B8 m st (n+1) d) (fun id=>Dp m st (n+1) d id) hs (fun i hj=>X6i m hM st hi (nth s i) (n+1) d hn hd hw))<|hk0) v0 c0 ?_
    refine Ah ?_
    refine RK wR [(.bool (s.any fun id=>Dp m st (n+1) d id))] ?_
    exact Same.of_eq (by simp only[An];rw[X0i (by assumption) (by assumption) (by assumption)])
theorem X0d (m:Int→Int→List UInt8→Int→List UInt8→Bool × Int) (hM:Ih m) (st:PoolT) (hi:IdxOk st) (s:List Int) (hs:s.length≤4611686018427387904):∀(n:Nat) (d:DepT),d.size≤n→d.size≤4194304→woB n d=true→FnV Tryz.prog 60 [(.fp (A4 st)),(.agg [(.int .i64 (d.kind)),(.str (d.name)),(.int .i64 (d.op)),(.str (d.evr)),(.row 5 d.args.length (depAt d.args))]),Ag s] (.bool (Co m st s n d)):=by
 intro n
 induction n with
 |zero=>intro d h;have:=E1 d;omega
 |succ n ih=>exact fun d h hd hw=>X0c m hM st hi s hs n d hd h hw fun i hj=>ih _ (by have h1:=Gy hj;omega) (by have h1:=Gy hj;omega) (Wc hw hj)
end Sv
end
section
open Go Go.RowKit
namespace Sv
attribute [local irreducible] SW SO Bn
set_option maxHeartbeats 1000000
set_option maxRecDepth 100000
theorem Q1v:Au Tryz.prog 52:=Ay Tryz.func52 (by kernel_rfl) rfl
theorem Q2f:Au Tryz.prog 15:=Ay Tryz.func15 (by kernel_rfl) rfl
theorem X24:Au Tryz.prog 57:=Ay Tryz.func57 (by kernel_rfl) rfl
theorem X23:Au Tryz.prog 59:=Ay Tryz.func59 (by kernel_rfl) rfl
theorem Q5s:∀(n:Nat) (d:DepT),Dg d=true→woB n d=true:=by
 intro n
 induction n with
 |zero=>exact fun _ _=>rfl
 |succ n ih =>
  intro d h
  obtain⟨k,nm,op,ev,args⟩:=d
  have all:∀(k:Int) (l:List DepT),argsForm k l=true→l.all (woB n)=true:=by
   intro k l
   induction l with
   |nil=>exact fun _=>rfl
   |cons a l ihl =>
    intro q
    simp only[argsForm,Bool.and_eq_true] at q
    rw[List.all_cons,ih a q.2.1,ihl q.2.2];rfl
  unfold Dg at h
  unfold woB
  by_cases hk:k=1
  ·rw[if_pos hk] at h
   have h0:args.length=0:=by
    by_cases q:Bq nm=true∧0≤op∧op≤7∧args.length=0
    ·exact q.2.2.2
    ·rw[Q1a q] at h;cases h
   obtain rfl:=List.length_eq_zero_iff.1 h0
   subst hk
   rfl
  ·rw[if_neg hk] at h
   simp only[Bool.and_eq_true,Bool.not_eq_true',G6,decide_eq_false_iff_not] at h
   have h2:2≤args.length:=by
    have:=h.1
    simp only[not_or] at this
    omega
   show((!(decide (k=6)||decide (k=4))||decide (2≤args.length))&&args.all (woB n))=true
   rw[decide_eq_true h2,Bool.or_true,all k args h.2];rfl
theorem X5i {d:DepT} (h:Ct d=0):Dg d=true:=by
 unfold Ct at h
 cases hq:Dg d with
 |true=>rfl
 |false=>rw[hq] at h;simp at h
def E7 (d:DepT) (q:Bool):Int:=if Ct d=0 then (if q=true then 0 else 70) else Ct d
def Cf (m:Int→Int→List UInt8→Int→List UInt8→Bool × Int) (st:PoolT) (d:DepT) (s:List Int):Bool × Int :=
 if Ct d=0 then (if s.any (fun id=>decide (id < 0)||decide ((st.all.length:Int)≤id))=true then (false,69) else (Co m st s d.size d,0)) else (false,Ct d)
theorem Xi (st : PoolT) (d : DepT) (a : AV) (q : Bool) (hd : d.size ≤ 4194304) (ha : FunV Tryz.prog a [.int .i64 d.kind] (.bool q)) :
  FnV Tryz.prog 52 [(.fp (A4 st)),(.agg [(.int .i64 d.kind),(.str d.name),(.int .i64 d.op),(.str d.evr),(.row 5 d.args.length (depAt d.args))]),(.clo a)] (.int .i64 (E7 d q)):=by
 refine A5 [.tmp 6] Tryz.func52 rfl Tryz.ntmps52 rfl rfl (fun B F hF=>?_)
 refine Af [] [0,2,4] [(1,4)] hk0 v0 c0 ?_
 refine Ad ?_
 refine Aa [] [2,4,9] ?_
 refine Eh (by kernel_rfl) ?_
 refine Ai ?_
 refine Ad ?_
 refine Af [] [2,4,7] [] (hk 1 Ub (Q5k d hd)<|hk0) v0 c0 ?_
 refine Aa [] [2,4,7,13] ?_
 refine Dt (p:=(Ct d)=0) (by kernel_rfl) (fun c1=>?_) (fun c1=>?_)
 ·refine Aa [] [6] ?_
  refine Ah ?_
  refine RK wR [(.int .i64 (Ct d))] ?_
  exact Same.of_eq (by simp only[An];unfold E7;rw[if_neg (by assumption)])
 ·refine Ai ?_
  refine Ad ?_
  refine Ad ?_
  refine Ap ?_
  refine Br 3 0 [] [15,17] [] hk0 v0 c0 ?_
  refine Fu (s':=[(15,(.clo a)),(17,(.int .i64 d.kind)),(18,(.bool q))]) (a:=(.clo a)) (al:=[(.int .i64 d.kind)]) (r:=(.bool q)) (by kernel_rfl) (by kernel_rfl) (by kernel_rfl) (by kernel_rfl) (by kernel_rfl) ha.clo (by kernel_rfl) ?_
  refine Av 4 [] [19] [] hk0 v0 c0 ?_
  refine A8 (q:=!q) (by kernel_rfl) (fun c2=>?_) (fun c2=>?_)
  ·try simp only[Ao] at c2
   refine Aa [] [6] ?_
   refine Ah ?_
   refine RK wR [(.int .i64 70)] ?_
   exact Same.of_eq (by simp only[An];unfold E7;rw[if_pos (by omega),if_neg (by simp_all)])
  ·try simp only[Ao] at c2
   refine Ai ?_
   refine Aa [] [6] ?_
   refine Ah ?_
   refine RK wR [(.int .i64 0)] ?_
   exact Same.of_eq (by simp only[An];unfold E7;rw[if_pos (by omega),if_pos (by simp_all)])
theorem X0f (k : Int) :
  FnV Tryz.prog 57 [(.int .i64 k)] (.bool true):=by
 refine A5 [.tmp 2] Tryz.func57 rfl Tryz.ntmps57 rfl rfl (fun B F hF=>?_)
 refine Aa [] [] ?_
 refine Aa [] [2] ?_
 refine Ah ?_
 refine RK wR [(.bool true)] ?_
 exact Same.of_eq (by first|rfl|(simp only[An];simp_all))
theorem X0g (st : PoolT) (id : Int) :
  FnV Tryz.prog 59 [(.int .i64 id),(.fp (.agg [(.fp (A4 st))]))] (.bool (decide (id < 0)||decide ((st.all.length:Int)≤id))):=by
 refine A5 [.tmp 3] Tryz.func59 rfl Tryz.ntmps59 rfl rfl (fun B F hF=>?_)
 refine Aa [] [0,1] ?_
 obtain⟨b1,hb1⟩:∃b,b=(decide (id < 0)):=⟨_,rfl⟩
 refine Af (CS:=[(5,((!b1)=true→(!b1)=true)),(6,((!b1)=true→(!b1)=true)),(7,((!b1)=true→(!b1)=true)),(8,((!b1)=true→(!b1)=true∧(!b1)=true)),(9,(b1=false→(!b1)=true))]) [7,8,9,10,11,12] [3] [] hk0 (vk 3 6 (a:=.bool (decide (id < 0))) (b:=.bool b1) (Imp.of_eq (by rw[hb1]))<|v0) (by refine cc _ ?_<|cc _ ?_<|cc _ ?_<|cc _ ?_<|cc _ ?_ c0<;>simp) ?_
 refine Ah ?_
 refine RK wR [(.bool (b1||(decide ((st.all.length:Int)≤id))))] ?_
 subst hb1
 exact Same.of_eq (by first|rfl|(simp only[An];simp_all))
theorem Q5f (m : Int → Int → List UInt8 → Int → List UInt8 → Bool × Int) (hM : Ih m) (st : PoolT) (hi : IdxOk st) (d : DepT) (s : List Int) (hd : d.size ≤ 4194304) (hs : s.length ≤ 4611686018427387904) :
  FnV Tryz.prog 15 [(.fp (A4 st)),(.agg [(.int .i64 d.kind),(.str d.name),(.int .i64 d.op),(.str d.evr),(.row 5 d.args.length (depAt d.args))]),(Ag s)] (.tup [.bool (Cf m st d s).1,.int .i64 (Cf m st d s).2]):=by
 refine A5 [.tmp 6,.tmp 7] Tryz.func15 rfl Tryz.ntmps15 rfl rfl (fun B F hF=>?_)
 refine Af [] [2,3,4] [(2,4)] hk0 v0 c0 ?_
 refine Ad ?_
 refine Af [] [2,3,4,8] [] (hk 2 (al:=[(.fp (A4 st)),(.agg [(.int .i64 d.kind),(.str d.name),(.int .i64 d.op),(.str d.evr),(.row 5 d.args.length (depAt d.args))]),(.fn 57 [] [])]) Q1v ((Xi st d (.fn 57 [] []) true hd (FunV.of (by exact X24) (X0f d.kind))).of_args (ImpL.cons Imp.refl (ImpL.cons Imp.refl (ImpL.cons (Imp.clo rfl) ImpL.nil))))<|hk0) v0 c0 ?_
 refine Aa [] [2,3,4,8,13] ?_
 refine Dt (p:=(E7 d true)=0) (by kernel_rfl) (fun c1=>?_) (fun c1=>?_)
 ·refine Aa [] [6,7] ?_
  refine Ah ?_
  refine RK wR [(.bool false),(.int .i64 (E7 d true))] ?_
  have hc:¬Ct d=0:=by
   intro q
   have hr:E7 d true=0:=by unfold E7;rw[if_pos q,if_pos rfl]
   omega
  exact Same.of_eq (by simp only[An];unfold Cf E7;rw[if_neg hc,if_neg hc])
 ·have hc0 : Ct d = 0 := by
   by_cases q:Ct d=0
   ·exact q
   ·have hr:E7 d true=Ct d:=by unfold E7;rw[if_neg q]
    omega
  refine Ai ?_
  refine Ad ?_
  refine Ad ?_
  refine Ap ?_
  refine Br 2 0 [] [2,3,4,15,16] [] hk0 v0 c0 ?_
  refine Jd (s':=[(2,(Ag s)),(3,(.ptr 0 0)),(4,(.fp (.agg [(.int .i64 d.kind),(.str d.name),(.int .i64 d.op),(.str d.evr),(.row 5 d.args.length (depAt d.args))]))),(15,(Ag s)),(16,(.fn 59 [] [(.ptr 0 0)])),(17,(.bool (s.any fun id=>decide (id < 0)||decide ((st.all.length:Int)≤id))))]) (al:=[(Ag s),(.fn 59 [] [(.ptr 0 0)])]) (al':=[(Ag s),(.fn 59 [] [(.fp (.agg [(.fp (A4 st))]))])]) (h':=[]) (r:=(.bool (s.any fun id=>decide (id < 0)||decide ((st.all.length:Int)≤id)))) (by kernel_rfl) (by exact Qp) (by kernel_rfl) (by kernel_rfl) ((Qa s (.fn 59 [] [.fp (.agg [.fp (A4 st)])]) (fun id=>decide (id < 0)||decide ((st.all.length:Int)≤id)) hs (fun i hj=>FunV.of (by exact X23) (X0g st (nth s i)))).of_args (ImpL.cons Imp.refl (ImpL.cons (Imp.clo (by kernel_rfl)) ImpL.nil))) rfl (by kernel_rfl) ?_
  refine B5 ?_
  refine A8 (q:=s.any fun id=>decide (id < 0)||decide ((st.all.length:Int)≤id)) (by kernel_rfl) (fun c2=>?_) (fun c2=>?_)
  ·try simp only[Ao] at c2
   refine Aa [] [6,7] ?_
   refine Ah ?_
   refine RK wR [(.bool false),(.int .i64 69)] ?_
   exact Same.of_eq (by simp only[An];unfold Cf;rw[if_pos hc0,if_pos (by assumption)])
  ·try simp only[Ao] at c2
   refine Ai ?_
   refine Af [] [6,7] [] (hk 3 Mj (X0d m hM st hi s hs d.size d (Nat.le_refl _) hd (Q5s _ _ (X5i hc0)))<|hk0) v0 c0 ?_
   refine Ah ?_
   refine RK wR [(.bool (Co m st s d.size d)),(.int .i64 0)] ?_
   exact Same.of_eq (by simp only[An];unfold Cf;rw[if_pos hc0,if_neg (by simp_all)])
end Sv
end
section
open Go Go.RowKit
namespace Sv
attribute [local irreducible] SW SO Bn
set_option maxHeartbeats 1000000
set_option maxRecDepth 100000
theorem X4a:Au Tryz.prog 14:=Ay Tryz.func14 (by kernel_rfl) rfl
theorem X25:Au Tryz.prog 55:=Ay Tryz.func55 (by kernel_rfl) rfl
def E9 (m:Int→Int→List UInt8→Int→List UInt8→Bool × Int) (st:PoolT) (d:DepT):List Int × Int:=if E7 d (decide (d.kind=1))=0 then (F6 m st d true,0) else ([],E7 d (decide (d.kind=1)))
theorem Q9l (k : Int) :
  FnV Tryz.prog 55 [(.int .i64 k)] (.bool (decide (k=1))):=by
 refine A5 [.tmp 2] Tryz.func55 rfl Tryz.ntmps55 rfl rfl (fun B F hF=>?_)
 refine Aa [] [0] ?_
 refine Aa [] [2] ?_
 refine Ah ?_
 refine RK wR [(.bool (decide (k=1)))] ?_
 exact Same.of_eq (by first|rfl|(simp only[An];simp_all))
theorem X8a (m : Int → Int → List UInt8 → Int → List UInt8 → Bool × Int) (hM : Ih m) (st : PoolT) (hi : IdxOk st) (d : DepT) (hd : d.size ≤ 4194304) :
  FnV Tryz.prog 14 [(.fp (A4 st)),(.agg [(.int .i64 d.kind),(.str d.name),(.int .i64 d.op),(.str d.evr),(.row 5 d.args.length (depAt d.args))])] (.tup [Ag (E9 m st d).1,.int .i64 (E9 m st d).2]):=by
 refine A5 [.tmp 4,.tmp 5] Tryz.func14 rfl Tryz.ntmps14 rfl rfl (fun B F hF=>?_)
 refine Af [] [0,3] [(1,3)] hk0 v0 c0 ?_
 refine Ad ?_
 refine Af [] [0,3,6] [] (hk 2 (al:=[(.fp (A4 st)),(.agg [(.int .i64 d.kind),(.str d.name),(.int .i64 d.op),(.str d.evr),(.row 5 d.args.length (depAt d.args))]),(.fn 55 [] [])]) Q1v ((Xi st d (.fn 55 [] []) (decide (d.kind=1)) hd (FunV.of (by exact X25) (Q9l d.kind))).of_args (ImpL.cons Imp.refl (ImpL.cons Imp.refl (ImpL.cons (Imp.clo rfl) ImpL.nil))))<|hk0) v0 c0 ?_
 refine Aa [] [0,3,6,11] ?_
 refine Dt (p:=(E7 d (decide (d.kind=1)))=0) (by kernel_rfl) (fun c1=>?_) (fun c1=>?_)
 ·refine Aa [] [4,5] ?_
  refine Ah ?_
  refine RK wR [.nils,(.int .i64 (E7 d (decide (d.kind=1))))] ?_
  simp only[An]
  rw[show E9 m st d=([],E7 d (decide (d.kind=1))) from by unfold E9;rw[if_neg (by assumption)]]
  exact(Imp.tups (ImpL.cons Imp.nil (ImpL.cons Imp.refl ImpL.nil))).same
 ·refine Ai ?_
  refine Af [] [4,5] [] (hk 2 Q1t (Zl m hM st hi d true hd)<|hk0) v0 c0 ?_
  refine Ah ?_
  refine RK wR [(Ag (F6 m st d true)),(.int .i64 0)] ?_
  exact Same.of_eq (by simp only[An];unfold E9;rw[if_pos (by omega)])
end Sv
end
section
open Go Go.RowKit
namespace Sv
attribute [local irreducible] SW SO Bn
set_option maxHeartbeats 1000000
set_option maxRecDepth 100000
theorem Un:Au Tryz.prog 213:=Ay Tryz.func213 (by kernel_rfl) rfl
theorem Qs:Au Tryz.prog 142:=Ay Tryz.func142 (by kernel_rfl) rfl
theorem Q14:Au Tryz.prog 239:=Ay Tryz.func239 (by kernel_rfl) rfl
theorem Uq:Au Tryz.prog 145:=Ay Tryz.func145 (by kernel_rfl) rfl
theorem Q19:Au Tryz.prog 214:=Ay Tryz.func214 (by kernel_rfl) rfl
theorem Uo:Au Tryz.prog 177:=Ay Tryz.func177 (by kernel_rfl) rfl
theorem Q2d:Au Tryz.prog 178:=Ay Tryz.func178 (by kernel_rfl) rfl
def Gs (a b:Int):Int:=if a < b then -1 else if b < a then 1 else 0
def orI (a b:Int):Int:=if a=0 then b else a
def D9 (a b:List UInt8):Int:=orI (Gs ((Lib.trimLeftB a 48).length:Int) ((Lib.trimLeftB b 48).length:Int)) (Lib.compareBytes (Lib.trimLeftB a 48) (Lib.trimLeftB b 48))
theorem We {s:List UInt8} (h:Dv s≠0):1≤s.length:=by
 cases s with
 |nil=>exact absurd (by unfold Dv;rw[if_pos (.inl rfl)]) h
 |cons a r=>simp
theorem Ov {s:List UInt8} (h:Dv s=0):s.length=0∨1≤A9 Bi s:=by
 cases s with
 |nil=>exact .inl rfl
 |cons a r =>
  right
  unfold Dv at h
  have hb:As (a::r) 0=a:=by simp[As]
  rw[hb] at h
  by_cases hd:Bi a=true
  ·unfold A9;rw[List.takeWhile_cons,hd];simp
  ·rw[if_neg (by simp[hd])] at h
   split at h
   ·omega
   ·split at h
    ·rename_i hl
     have:a.toNat=0:=by omega
     unfold B7 at hl;rw[this] at hl;simp at hl
    ·omega
theorem Q2t {s:List UInt8} {i:Nat} (h:¬s.drop i=[]):1≤s.length-i:=by
 have:=List.length_pos_iff.2 h
 rw[List.length_drop] at this;exact this
def Gp:Nat→List UInt8→List UInt8→Int
 |0,_,_=>0
 |n+1,a,b =>
  if Dv a≠0∨Dv b≠0 then (if Dv a≠Dv b then Gs (Dv a) (Dv b) else Gp n (a.drop 1) (b.drop 1))
  else if D9 (a.take (A9 Bi a)) (b.take (A9 Bi b))≠0 then D9 (a.take (A9 Bi a)) (b.take (A9 Bi b))
  else if a.drop (A9 Bi a)≠[]∨b.drop (A9 Bi b)≠[] then Gp n (a.drop (A9 Bi a)) (b.drop (A9 Bi b)) else 0
theorem Q0j (x : Int) :
  FnV Tryz.prog 239 [(.int .i64 x)] (.bool false):=by
 refine A5 [.tmp 2] Tryz.func239 rfl Tryz.ntmps239 rfl rfl (fun B F hF=>?_)
 refine Aa [] [0] ?_
 refine Aa [] [2] ?_
 refine Ah ?_
 refine RK wR [(.bool (!decide (x=x)))] ?_
 exact Same.of_eq (by simp only[An];simp)
theorem U7 (x y : Int) :
  FnV Tryz.prog 213 [(.int .i64 x),(.int .i64 y)] (.int .i64 (Gs x y)):=by
 refine A5 [.tmp 4] Tryz.func213 rfl Tryz.ntmps213 rfl rfl (fun B F hF=>?_)
 refine Aa [] [0,1] ?_
 refine Af [] [0,1,5] [] (hk 1 Q14 (Q0j x)<|hk0) v0 c0 ?_
 refine Af [] [0,1,5,6] [] (hk 1 Q14 (Q0j y)<|hk0) v0 c0 ?_
 refine Ad ?_
 refine Aa [] [0,1,6,11] ?_
 refine Eh (by kernel_rfl) ?_
 refine Ai ?_
 refine Ad ?_
 refine Aa [] [0,1,13] ?_
 refine Eh (by kernel_rfl) ?_
 refine Ai ?_
 refine Ad ?_
 refine Aa [] [0,1,16] ?_
 refine A6 (p:=x < y) (by kernel_rfl) (fun c1=>?_) (fun c1=>?_)
 ·refine Aa [] [4] ?_
  refine Ah ?_
  refine RK wR [(.int .i64 (-1))] ?_
  exact Same.of_eq (by simp only[An];unfold Gs;rw[if_pos (by assumption)])
 ·refine Ai ?_
  refine Ad ?_
  refine Aa [] [19] ?_
  refine A6 (p:=y < x) (by kernel_rfl) (fun c2=>?_) (fun c2=>?_)
  ·refine Aa [] [4] ?_
   refine Ah ?_
   refine RK wR [(.int .i64 1)] ?_
   exact Same.of_eq (by simp only[An];unfold Gs;rw[if_neg (by assumption),if_pos (by assumption)])
  ·refine Ai ?_
   refine Aa [] [4] ?_
   refine Ah ?_
   refine RK wR [(.int .i64 0)] ?_
   exact Same.of_eq (by simp only[An];unfold Gs;rw[if_neg (by assumption),if_neg (by assumption)])
theorem Pu (x y : Int) :
  FnV Tryz.prog 142 [(Ag [x,y])] (.int .i64 (orI x y)):=by
 refine A5 [.tmp 2] Tryz.func142 rfl Tryz.ntmps142 rfl rfl (fun B F hF=>?_)
 refine Aa [] [0] ?_
 refine Aa [] [0,3] ?_
 refine Ad ?_
 refine Aa [] [3,6,7,8] ?_
 refine A1 ?_
 refine Rf 3 ?_
 refine Fs ?_
 refine Aa [] [3,6,7,8,9] ?_
 refine Ad ?_
 refine Gd (by kernel_rfl) ?_
 refine Ai ?_
 refine Ad ?_
 refine A1 ?_
 refine Af [] [3,5,6,7,8] [] hk0 v0 (cc 0 (p:=(0≤(0:Int)∧0 < 2)) (by omega)<|c0) ?_
 refine Aa [] [3,5,6,7,8,14] ?_
 refine Dt (p:=x=0) (by kernel_rfl) (fun c1=>?_) (fun c1=>?_)
 ·refine Aa [] [2] ?_
  refine Ah ?_
  refine RK wR [(.int .i64 x)] ?_
  exact Same.of_eq (by simp only[An];unfold orI;rw[if_neg (by assumption)])
 ·refine Ai ?_
  refine Ap ?_
  refine Av 0 [] [3,6,7,8] [] hk0 v0 (cc 0 (p:=(-9223372036854775808≤(1:Int)∧(1:Int)≤9223372036854775807)) (by omega)<|c0) ?_
  refine Fs ?_
  refine Aa [] [3,6,7,8,9] ?_
  refine Ad ?_
  refine Gd (by kernel_rfl) ?_
  refine Ai ?_
  refine Ad ?_
  refine A1 ?_
  refine Af [] [3,5,6,7,8] [] hk0 v0 (cc 0 (p:=(0≤(1:Int)∧1 < 2)) (by omega)<|c0) ?_
  refine Aa [] [3,5,6,7,8,14] ?_
  refine Dt (p:=y=0) (by kernel_rfl) (fun c2=>?_) (fun c2=>?_)
  ·refine Aa [] [2] ?_
   refine Ah ?_
   refine RK wR [(.int .i64 y)] ?_
   exact Same.of_eq (by simp only[An];unfold orI;rw[if_pos (by simp_all)]<;>rfl)
  ·refine Ai ?_
   refine Ap ?_
   refine Av 0 [] [3,6,7,8] [] hk0 v0 (cc 0 (p:=(-9223372036854775808≤(2:Int)∧(2:Int)≤9223372036854775807)) (by omega)<|c0) ?_
   refine Fs ?_
   refine Aa [] [3,6,7,8,9] ?_
   refine Ad ?_
   refine Eh (by kernel_rfl) ?_
   refine Bt ?_
   refine Aa [] [2] ?_
   refine Ah ?_
   refine RK wR [(.int .i64 0)] ?_
   exact Same.of_eq (by simp only[An];unfold orI;rw[if_pos (by simp_all)]<;>simp_all)
theorem S6 (a b : List UInt8) :
  FnV Tryz.prog 177 [(.str a),(.str b)] (.int .i64 (D9 a b)):=by
 refine A5 [.tmp 4] Tryz.func177 rfl Tryz.ntmps177 rfl rfl (fun B F hF=>?_)
 refine Aa [] [0,1] ?_
 refine Af [] [0,1] [] (hk 1 Uq (Q4x a 48 (by decide))<|hk 3 Uq (Q4x b 48 (by decide))<|hk0) v0 c0 ?_
 refine Af [] [4] [(9,17)] (hk 4 Un (U7 ((Lib.trimLeftB a 48).length:Int) ((Lib.trimLeftB b 48).length:Int))<|hk 7 Q19 (Q5j (Lib.trimLeftB a 48) (Lib.trimLeftB b 48))<|hk 9 Qs (Pu (Gs ((Lib.trimLeftB a 48).length:Int) ((Lib.trimLeftB b 48).length:Int)) (Lib.compareBytes (Lib.trimLeftB a 48) (Lib.trimLeftB b 48)))<|hk0) (vk 9 17 (b:=(Ag [Gs ((Lib.trimLeftB a 48).length:Int) ((Lib.trimLeftB b 48).length:Int),Lib.compareBytes (Lib.trimLeftB a 48) (Lib.trimLeftB b 48)])) (Imp.list (f:=AV.int .i64) rfl)<|v0) c0 ?_
 refine Ah ?_
 refine RK wR [(.int .i64 (D9 a b))] ?_
 exact Same.of_eq (by first|rfl|(simp only[An];simp_all))
theorem X46 (n : Nat) (a0 b0 : List UInt8) (h0 : a0.length + b0.length < n) (ha : a0.length ≤ 4194304) (hb : b0.length ≤ 4194304) :
  FnV Tryz.prog 178 [(.str a0),(.str b0)] (.int .i64 (Gp n a0 b0)):=by
 refine A5 [.tmp 4] Tryz.func178 rfl Tryz.ntmps178 rfl rfl (fun B F hF=>?_)
 refine Aa [] [0,1] ?_
 refine Vp 0 rfl (fun g y=>∃(k:Nat) (a:List UInt8) (b:List UInt8),a.length+b.length < k∧a.length≤4194304∧b.length≤4194304∧Gp n a0 b0=Gp k a b∧y=⟨[(0,(.str a)),(1,(.str b))],[],0⟩∧g=k) [0,1] 0 (by omega) (fun hJ0=>?_) ?_
 ·refine Ad ?_
  refine Vq ?_
  refine Rg (y:=⟨[(0,(.str a0)),(1,(.str b0))],[],0⟩) [0,1] 0 (by omega) (by kernel_rfl) (hJ0 _ _ ⟨n,a0,b0,(by omega),(by omega),(by omega),(by rfl),(by kernel_rfl),rfl⟩)
 ·rintro g y ⟨k,a,b,fl0_1,fl0_2,fl0_3,fl0_4,rfl,rfl⟩
  have hca:=I5 Bi a
  have hcb:=I5 Bi b
  refine Ad ?_
  refine Af [] [0,1,5,6] [] (hk 1 Q18 (Wd a)<|hk 3 Q18 (Wd b)<|hk0) v0 c0 ?_
  obtain⟨b1,hb1⟩:∃b,b=(!decide ((Dv a)=0)):=⟨_,rfl⟩
  refine Af (CS:=[(4,((!b1)=true→(!b1)=true)),(5,(b1=false→(!b1)=true))]) [17,18] [0,1,5,6,19] [] hk0 (vk 3 16 (a:=.bool (!decide ((Dv a)=0))) (b:=.bool b1) (Imp.of_eq (by rw[hb1]))<|v0) (by refine cc _ ?_<|cc _ ?_ c0<;>simp) ?_
  refine A8 (q:=b1||(!decide ((Dv b)=0))) (by kernel_rfl) (fun c1=>?_) (fun c1=>?_)
  ·subst hb1
   try simp only[Ao] at c1
   refine Ad ?_
   refine Aa [] [0,1,5,6,22] ?_
   refine Dt (p:=(Dv a)=(Dv b)) (by kernel_rfl) (fun c2=>?_) (fun c2=>?_)
   ·refine Af [] [4] [] (hk 2 Un (U7 (Dv a) (Dv b))<|hk0) v0 c0 ?_
    refine Ah ?_
    refine RK wR [(.int .i64 (Gs (Dv a) (Dv b)))] ?_
    refine Same.of_eq ?_
    simp only[An]
    rw[fl0_4]
    obtain⟨k,rfl⟩:∃q,g=q+1:=⟨g-1,by omega⟩
    try simp only[List.take_length,List.drop_zero] at *
    unfold Gp
    rw[if_pos (by assumption),if_pos (by assumption)]
   ·have hpa:=We (s:=a) (by omega)
    have hpb:=We (s:=b) (by omega)
    refine Ai ?_
    refine C2 (CS:=[(1,(0≤(1:Int)∧(1:Int)≤(a.length:Int)∧(a.length:Int)≤(a.length:Int))),(3,(0≤(1:Int)∧(1:Int)≤(b.length:Int)∧(b.length:Int)≤(b.length:Int)))]) [] [0,1] [] hk0 v0 (by refine cc _ ?_<|cc _ ?_ c0<;>omega) ?_
    have hza:=fun h=>Ov (s:=a) h
    have hzb:=fun h=>Ov (s:=b) h
    refine Mv ⟨rfl,_,(by kernel_rfl:gcS _ _ _=some ⟨[(0,(.str ((a.take a.length).drop 1))),(1,(.str ((b.take b.length).drop 1)))],[],0⟩),_,?_,g-1,((a.take a.length).drop 1),((b.take b.length).drop 1),?_,?_,?_,?_,(by kernel_rfl),rfl⟩
    all_goals (obtain⟨k,rfl⟩:∃q,g=q+1:=⟨g-1,by omega⟩)
    all_goals try simp only[List.take_length,List.drop_zero,List.length_drop] at *
    all_goals have hdec:a.length=0→b.length=0→False:=fun e1 e2=>by first|omega|(rcases c4 with h|h<;>have:=Q2t h<;>omega)
    ·first|omega|(have h1:=hza (by omega);have h2:=hzb (by omega);have h3:¬(a.length=0∧b.length=0):=fun e=>hdec e.1 e.2;omega)
    ·first|omega|(have h1:=hza (by omega);have h2:=hzb (by omega);have h3:¬(a.length=0∧b.length=0):=fun e=>hdec e.1 e.2;omega)
    ·omega
    ·omega
    ·rw[fl0_4]
     conv=>lhs;unfold Gp
     first|(rw[if_pos (by assumption),if_neg (by omega)];rfl)|(rw[if_neg (by omega),if_neg (by omega),if_pos (by simp_all)];rfl)
  ·subst hb1
   try simp only[Ao] at c1
   refine Ai ?_
   refine Af [] [0,1,7,8] [] (hk 1 (al:=[(.str a),(.fn 160 [] [])]) Hn ((Ie a (.fn 160 [] []) Bi (by omega) (fun c=>FunV.of (by exact Ib) (I4 c))).of_args (ImpL.cons Imp.refl (ImpL.cons (Imp.clo rfl) ImpL.nil)))<|hk 3 (al:=[(.str b),(.fn 160 [] [])]) Hn ((Ie b (.fn 160 [] []) Bi (by omega) (fun c=>FunV.of (by exact Ib) (I4 c))).of_args (ImpL.cons Imp.refl (ImpL.cons (Imp.clo rfl) ImpL.nil)))<|hk0) v0 c0 ?_
   refine Ad ?_
   refine C2 (CS:=[(2,(0≤(0:Int)∧(0:Int)≤(A9 Bi a:Int)∧(A9 Bi a:Int)≤(a.length:Int))),(5,(0≤(0:Int)∧(0:Int)≤(A9 Bi b:Int)∧(A9 Bi b:Int)≤(b.length:Int)))]) [] [0,1,7,8,9] [] (hk 6 Uo (S6 ((a.take (A9 Bi a)).drop 0) ((b.take (A9 Bi b)).drop 0))<|hk0) v0 (by refine cc _ ?_<|cc _ ?_ c0<;>omega) ?_
   refine Aa [] [0,1,7,8,9,42] ?_
   refine Dt (p:=(D9 ((a.take (A9 Bi a)).drop 0) ((b.take (A9 Bi b)).drop 0))=0) (by kernel_rfl) (fun c3=>?_) (fun c3=>?_)
   ·refine Aa [] [4] ?_
    refine Ah ?_
    refine RK wR [(.int .i64 (D9 ((a.take (A9 Bi a)).drop 0) ((b.take (A9 Bi b)).drop 0)))] ?_
    refine Same.of_eq ?_
    simp only[An]
    rw[fl0_4]
    obtain⟨k,rfl⟩:∃q,g=q+1:=⟨g-1,by omega⟩
    try simp only[List.take_length,List.drop_zero] at *
    unfold Gp
    rw[if_neg (by omega),if_pos (by assumption)]
   ·refine Ai ?_
    refine Ad ?_
    refine C2 (CS:=[(2,(0≤(A9 Bi a:Int)∧(A9 Bi a:Int)≤(a.length:Int)∧(a.length:Int)≤(a.length:Int))),(5,(0≤(A9 Bi b:Int)∧(A9 Bi b:Int)≤(b.length:Int)∧(b.length:Int)≤(b.length:Int)))]) [] [0,1] [] hk0 v0 (by refine cc _ ?_<|cc _ ?_ c0<;>omega) ?_
    obtain⟨b2,hb2⟩:∃b,b=(!decide ((a.take a.length).drop (A9 Bi a)=[])):=⟨_,rfl⟩
    refine Af (CS:=[(4,((!b2)=true→(!b2)=true)),(5,(b2=false→(!b2)=true))]) [53,54] [0,1,55] [] hk0 (vk 3 52 (a:=.bool (!decide ((a.take a.length).drop (A9 Bi a)=[]))) (b:=.bool b2) (Imp.of_eq (by rw[hb2]))<|v0) (by refine cc _ ?_<|cc _ ?_ c0<;>simp) ?_
    refine A8 (q:=b2||(!decide ((b.take b.length).drop (A9 Bi b)=[]))) (by kernel_rfl) (fun c4=>?_) (fun c4=>?_)
    ·subst hb2
     try simp only[Ao] at c4
     have hza:=fun h=>Ov (s:=a) h
     have hzb:=fun h=>Ov (s:=b) h
     refine Mv ⟨rfl,_,(by kernel_rfl:gcS _ _ _=some ⟨[(0,(.str ((a.take a.length).drop (A9 Bi a)))),(1,(.str ((b.take b.length).drop (A9 Bi b))))],[],0⟩),_,?_,g-1,((a.take a.length).drop (A9 Bi a)),((b.take b.length).drop (A9 Bi b)),?_,?_,?_,?_,(by kernel_rfl),rfl⟩
     all_goals (obtain⟨k,rfl⟩:∃q,g=q+1:=⟨g-1,by omega⟩)
     all_goals try simp only[List.take_length,List.drop_zero,List.length_drop] at *
     all_goals have hdec:a.length=0→b.length=0→False:=fun e1 e2=>by first|omega|(rcases c4 with h|h<;>have:=Q2t h<;>omega)
     ·first|omega|(have h1:=hza (by omega);have h2:=hzb (by omega);have h3:¬(a.length=0∧b.length=0):=fun e=>hdec e.1 e.2;omega)
     ·first|omega|(have h1:=hza (by omega);have h2:=hzb (by omega);have h3:¬(a.length=0∧b.length=0):=fun e=>hdec e.1 e.2;omega)
     ·omega
     ·omega
     ·rw[fl0_4]
      conv=>lhs;unfold Gp
      first|(rw[if_pos (by assumption),if_neg (by omega)];rfl)|(rw[if_neg (by omega),if_neg (by omega),if_pos (by simp_all)];rfl)
    ·subst hb2
     try simp only[Ao] at c4
     refine Ai ?_
     refine Aa [] [4] ?_
     refine Ah ?_
     refine RK wR [(.int .i64 0)] ?_
     refine Same.of_eq ?_
     simp only[An]
     rw[fl0_4]
     obtain⟨k,rfl⟩:∃q,g=q+1:=⟨g-1,by omega⟩
     try simp only[List.take_length,List.drop_zero] at *
     unfold Gp
     rw[if_neg (by omega),if_neg (by omega),if_neg (by simp_all)]
end Sv
end
section
open Go Go.RowKit
namespace Sv
attribute [local irreducible] SW SO Bn
set_option maxHeartbeats 1000000
set_option maxRecDepth 100000
theorem Q2c:Au Tryz.prog 179:=Ay Tryz.func179 (by kernel_rfl) rfl
theorem Q2j:Au Tryz.prog 141:=Ay Tryz.func141 (by kernel_rfl) rfl
def orS (x y:List UInt8):List UInt8:=if x=[] then y else x
def Bj (k:Int) (a b:List UInt8):(List UInt8 × List UInt8 × List UInt8) × (List UInt8 × List UInt8 × List UInt8) × Int :=
 if k≠1∧k≠2 then (([],[],[]),([],[],[]),1) else if Cg a=0 then (Cv a,Cv b,Cg b) else (Cv a,([],[],[]),Cg a)
theorem Yq (x y : List UInt8) :
  FnV Tryz.prog 179 [(C4 [x,y])] (.str (orS x y)):=by
 refine A5 [.tmp 2] Tryz.func179 rfl Tryz.ntmps179 rfl rfl (fun B F hF=>?_)
 refine Aa [] [0] ?_
 refine Aa [] [0,3] ?_
 refine Ad ?_
 refine Aa [] [3,6,7,8] ?_
 refine A1 ?_
 refine Rf 3 ?_
 refine Fs ?_
 refine Aa [] [3,6,7,8,9] ?_
 refine Ad ?_
 refine Gd (by kernel_rfl) ?_
 refine Ai ?_
 refine Ad ?_
 refine A1 ?_
 refine Af [] [3,5,6,7,8] [] hk0 v0 (cc 0 (p:=(0≤(0:Int)∧0 < 2)) (by omega)<|c0) ?_
 refine Aa [] [3,5,6,7,8,14] ?_
 refine Dt (p:=x=[]) (by kernel_rfl) (fun c1=>?_) (fun c1=>?_)
 ·refine Aa [] [2] ?_
  refine Ah ?_
  refine RK wR [(.str x)] ?_
  exact Same.of_eq (by simp only[An];unfold orS;rw[if_neg (by assumption)])
 ·refine Ai ?_
  refine Ap ?_
  refine Av 0 [] [3,6,7,8] [] hk0 v0 (cc 0 (p:=(-9223372036854775808≤(1:Int)∧(1:Int)≤9223372036854775807)) (by omega)<|c0) ?_
  refine Fs ?_
  refine Aa [] [3,6,7,8,9] ?_
  refine Ad ?_
  refine Gd (by kernel_rfl) ?_
  refine Ai ?_
  refine Ad ?_
  refine A1 ?_
  refine Af [] [3,5,6,7,8] [] hk0 v0 (cc 0 (p:=(0≤(1:Int)∧1 < 2)) (by omega)<|c0) ?_
  refine Aa [] [3,5,6,7,8,14] ?_
  refine Dt (p:=y=[]) (by kernel_rfl) (fun c2=>?_) (fun c2=>?_)
  ·refine Aa [] [2] ?_
   refine Ah ?_
   refine RK wR [(.str y)] ?_
   exact Same.of_eq (by simp only[An];unfold orS;rw[if_pos (by simp_all)]<;>rfl)
  ·refine Ai ?_
   refine Ap ?_
   refine Av 0 [] [3,6,7,8] [] hk0 v0 (cc 0 (p:=(-9223372036854775808≤(2:Int)∧(2:Int)≤9223372036854775807)) (by omega)<|c0) ?_
   refine Fs ?_
   refine Aa [] [3,6,7,8,9] ?_
   refine Ad ?_
   refine Eh (by kernel_rfl) ?_
   refine Bt ?_
   refine Aa [] [2] ?_
   refine Ah ?_
   refine RK wR [(.str [])] ?_
   exact Same.of_eq (by simp only[An];unfold orS;rw[if_pos (by simp_all)]<;>simp_all)
theorem Q3m (kind : Int) (a b : List UInt8) (ha : a.length ≤ 4194304) (hb : b.length ≤ 4194304) :
  FnV Tryz.prog 141 [(.int .i64 kind),(.str a),(.str b)] (.tup [(.agg [.str (Bj kind a b).1.1,.str (Bj kind a b).1.2.1,.str (Bj kind a b).1.2.2]),(.agg [.str (Bj kind a b).2.1.1,.str (Bj kind a b).2.1.2.1,.str (Bj kind a b).2.1.2.2]),.int .i64 (Bj kind a b).2.2]):=by
 refine A5 [.cell 6 150,.cell 7 150,.tmp 8] Tryz.func141 rfl Tryz.ntmps141 rfl rfl (fun B F hF=>?_)
 refine Aa [] [0,1,2,6,7] ?_
 refine Ad ?_
 obtain⟨b1,hb1⟩:∃b,b=(!decide (kind=1)):=⟨_,rfl⟩
 refine Af (CS:=[(4,(b1=true→b1=true)),(5,(b1=true→b1=true))]) [12,13] [1,2,6,7,14] [] hk0 (vk 3 11 (a:=.bool (!decide (kind=1))) (b:=.bool b1) (Imp.of_eq (by rw[hb1]))<|v0) (by refine cc _ ?_<|cc _ ?_ c0<;>simp) ?_
 refine A8 (q:=b1&&(!decide (kind=2))) (by kernel_rfl) (fun c1=>?_) (fun c1=>?_)
 ·subst hb1
  try simp only[Ao] at c1
  refine C2 [] [6,7,8] [] hk0 v0 c0 ?_
  refine Ah ?_
  refine RK wR [(.agg [(.str []),(.str []),(.str [])]),(.agg [(.str []),(.str []),(.str [])]),(.int .i64 1)] ?_
  exact Same.of_eq (by simp only[An];unfold Bj;first|(rw[if_pos (by omega)];done)|(rw[if_neg (by omega),if_pos (by omega)];done)|(rw[if_neg (by omega),if_neg (by omega)];done))
 ·subst hb1
  try simp only[Ao] at c1
  refine Ai ?_
  refine Ad ?_
  refine Af [] [2,6,7,8] [] (hk 1 N9 (Qk a (by omega))<|hk0) v0 c0 ?_
  refine Aa [] [2,6,7,8,23] ?_
  refine A6 (p:=(Cg a)=0) (by kernel_rfl) (fun c2=>?_) (fun c2=>?_)
  ·refine Ap ?_
   refine Av 0 [] [6,7,8] [] (hk 1 N9 (Qk b (by omega))<|hk0) v0 c0 ?_
   refine C2 [] [6,7,8] [] hk0 v0 c0 ?_
   refine Ah ?_
   refine RK wR [(.agg [(.str ((Cv a).1)),(.str ((Cv a).2.1)),(.str ((Cv a).2.2))]),(.agg [(.str ((Cv b).1)),(.str ((Cv b).2.1)),(.str ((Cv b).2.2))]),(.int .i64 (Cg b))] ?_
   exact Same.of_eq (by simp only[An];unfold Bj;first|(rw[if_pos (by omega)];done)|(rw[if_neg (by omega),if_pos (by omega)];done)|(rw[if_neg (by omega),if_neg (by omega)];done))
  ·refine Ai ?_
   refine C2 [] [6,7,8] [] hk0 v0 c0 ?_
   refine Ah ?_
   refine RK wR [(.agg [(.str ((Cv a).1)),(.str ((Cv a).2.1)),(.str ((Cv a).2.2))]),(.agg [(.str []),(.str []),(.str [])]),(.int .i64 (Cg a))] ?_
   exact Same.of_eq (by simp only[An];unfold Bj;first|(rw[if_pos (by omega)];done)|(rw[if_neg (by omega),if_pos (by omega)];done)|(rw[if_neg (by omega),if_neg (by omega)];done))
end Sv
end
section
open Go Go.RowKit
namespace Sv
attribute [local irreducible] SW SO Bn
set_option maxHeartbeats 400000
set_option maxRecDepth 100000
theorem Q2b:Au Tryz.prog 180:=Ay Tryz.func180 (by kernel_rfl) rfl
theorem Q17:Au Tryz.prog 216:=Ay Tryz.func216 (by kernel_rfl) rfl
theorem X3k:Au Tryz.prog 217:=Ay Tryz.func217 (by kernel_rfl) rfl
theorem X3j:Au Tryz.prog 218:=Ay Tryz.func218 (by kernel_rfl) rfl
def Jq (c:UInt8):Bool:=Bi c||(B7 c||(decide (c.toNat=126)||decide (c.toNat=94)))
theorem X0t (c : UInt8) :
  FnV Tryz.prog 217 [(.int .u8 ((c.toNat:Int)))] (.bool (Jq c)):=by
 refine A5 [.tmp 2] Tryz.func217 rfl Tryz.ntmps217 rfl rfl (fun B F hF=>?_)
 refine Aa [] [0] ?_
 obtain⟨b1,hb1⟩:∃b,b=((Bi c)||(B7 c)):=⟨_,rfl⟩
 obtain⟨b2,hb2⟩:∃b,b=(b1||(decide ((c.toNat:Int)=126))):=⟨_,rfl⟩
 refine Af (CS:=[(4,(!(Bi c))=true→(!(Bi c))=true),(5,((Bi c)=false→(!(Bi c))=true)),(8,((!b1)=true→(!b1)=true)),(9,(b1=false→(!b1)=true)),(12,((!b2)=true→(!b2)=true)),(13,(b2=false→(!b2)=true))]) [6,10,11,14,15] [2] [] (hk 1 Ib (I4 c)<|hkg 4 (!(Bi c)) Mk (fun cg=>Nw c)<|hk0) (vk 7 9 (a:=.bool ((Bi c)||(B7 c))) (b:=.bool b1) (Imp.of_eq (by rw[hb1]))<|vk 11 13 (a:=.bool (b1||(decide ((c.toNat:Int)=126)))) (b:=.bool b2) (Imp.of_eq (by rw[hb2]))<|v0) (by refine cc _ ?_<|cc _ ?_<|cc _ ?_<|cc _ ?_<|cc _ ?_<|cc _ ?_ c0<;>simp) ?_
 refine Ah ?_
 refine RK wR [(.bool (b2||(decide ((c.toNat:Int)=94))))] ?_
 subst hb2 hb1
 refine Same.of_eq ?_
 simp only[An]
 congr 1
 unfold Jq
 rw[Bool.eq_iff_iff]
 have e1:((c.toNat:Int)=126)↔c.toNat=126:=by omega
 have e2:((c.toNat:Int)=94)↔c.toNat=94:=by omega
 simp only[Bool.and_eq_true,Bool.or_eq_true,decide_eq_true_eq,e1,e2,or_assoc]
theorem Q9i (c : UInt8) (a : AV) (q : Bool) (ha : FunV Tryz.prog a [.int .u8 (c.toNat : Int)] (.bool q)) :
  FnV Tryz.prog 218 [(.int .u8 ((c.toNat:Int))),(.fp (.agg [(.clo a)]))] (.bool (!q)):=by
 refine A5 [.tmp 3] Tryz.func218 rfl Tryz.ntmps218 rfl rfl (fun B F hF=>?_)
 refine Aa [] [0,1] ?_
 refine Ad ?_
 refine Ap ?_
 refine Br 2 0 [] [4,5] [] hk0 v0 c0 ?_
 refine Fu (s':=[(4,(.clo a)),(5,(.int .u8 ((c.toNat:Int)))),(6,(.bool q))]) (a:=(.clo a)) (al:=[(.int .u8 ((c.toNat:Int)))]) (r:=(.bool q)) (by kernel_rfl) (by kernel_rfl) (by kernel_rfl) (by kernel_rfl) (by kernel_rfl) ha.clo (by kernel_rfl) ?_
 refine Av 3 [] [3] [] hk0 v0 c0 ?_
 refine Ah ?_
 refine RK wR [(.bool (!q))] ?_
 exact Same.of_eq (by first|rfl|(simp only[An];simp_all))
theorem X51 (a b : List UInt8) (ha : a.length ≤ 4194304) (hb : b.length ≤ 4194304) :
  FnV Tryz.prog 216 [(.int .u8 126),(.fp (.agg [(.str a)])),(.fp (.agg [(.str b)]))] (.tup [.bool (Bk a 126),.bool (Bk b 126)]):=by
 refine A5 [.tmp 4,.tmp 5] Tryz.func216 rfl Tryz.ntmps216 rfl rfl (fun B F hF=>?_)
 refine Aa [] [0,1,2] ?_
 refine C2 [] [4,5] [] (hk 3 Ml (Ou a 126 (by omega))<|hk 7 Ml (Ou b 126 (by omega))<|hk0) v0 c0 ?_
 refine Ah ?_
 refine RK wR [(.bool (Bk a 126)),(.bool (Bk b 126))] ?_
 exact Same.of_eq (by first|rfl|(simp only[An];simp_all))
theorem X50 (a b : List UInt8) (ha : a.length ≤ 4194304) (hb : b.length ≤ 4194304) :
  FnV Tryz.prog 216 [(.int .u8 94),(.fp (.agg [(.str a)])),(.fp (.agg [(.str b)]))] (.tup [.bool (Bk a 94),.bool (Bk b 94)]):=by
 refine A5 [.tmp 4,.tmp 5] Tryz.func216 rfl Tryz.ntmps216 rfl rfl (fun B F hF=>?_)
 refine Aa [] [0,1,2] ?_
 refine C2 [] [4,5] [] (hk 3 Ml (Ou a 94 (by omega))<|hk 7 Ml (Ou b 94 (by omega))<|hk0) v0 c0 ?_
 refine Ah ?_
 refine RK wR [(.bool (Bk a 94)),(.bool (Bk b 94))] ?_
 exact Same.of_eq (by first|rfl|(simp only[An];simp_all))
end Sv
end
section
open Go Go.RowKit
namespace Sv
attribute [local irreducible] SW SO Bn
set_option maxHeartbeats 2000000
set_option maxRecDepth 100000
def Es (c:UInt8):Bool:=!Jq c
theorem Y3 (c:UInt8):FunV Tryz.prog (.fn 218 [] [.fp (.agg [.fn 217 [] []])]) [.int .u8 (c.toNat:Int)] (.bool (Es c)) :=
 FunV.of (by exact X3j) ((Q9i c (.fn 217 [] []) (Jq c) (FunV.of (by exact X3k) (X0t c))).of_args (ImpL.cons Imp.refl (ImpL.cons (Imp.fp (Imp.aggs (ImpL.cons (Imp.clo rfl) ImpL.nil))) ImpL.nil)))
theorem Q0z {s:List UInt8} {k:UInt8} (h:Bk s k=true):1≤s.length:=by
 cases s with
 |nil=>simp[Bk] at h
 |cons a r=>simp
theorem Q21 (p:UInt8→Bool):∀s:List UInt8,s.drop (A9 p s)=[]∨p (As (s.drop (A9 p s)) 0)=false
 |[] => .inl rfl
 |a::r=>by
  unfold A9
  rw[List.takeWhile_cons]
  cases h:p a with
  |true=>exact Q21 p r
  |false=>right;simpa [As] using h
theorem Y4 {s r:List UInt8} (h:r=s.drop (A9 Es s)):r=[]∨Jq (As r 0)=true:=by
 rcases Q21 Es s with q|q
 ·exact .inl (h.trans q)
 ·right
  rw[h]
  have e:(!Jq (As (s.drop (A9 Es s)) 0))=false:=q
  simpa using e
theorem U2 {p:UInt8→Bool} {s:List UInt8} (h:1≤s.length) (k:p (As s 0)=true):1≤A9 p s:=by
 cases s with
 |nil=>simp at h
 |cons a r=>unfold A9;rw[List.takeWhile_cons,show p a=true from by simpa [As] using k];simp
theorem X0u {s:List UInt8} (h:Jq (As s 0)=true) (hs:1≤s.length) (h1:Bk s 126=false) (h2:Bk s 94=false) (h3:Bi (As s 0)=false):B7 (As s 0)=true:=by
 cases s with
 |nil=>simp at hs
 |cons a r =>
  have e:As (a::r) 0=a:=by simp[As]
  rw[e] at h h3 ⊢
  unfold Jq at h
  rw[h3] at h
  have a1:¬a.toNat=126:=fun q=>by have:a=126:=UInt8.toNat_inj.1 q;subst this;simp[Bk] at h1
  have a2:¬a.toNat=94:=fun q=>by have:a=94:=UInt8.toNat_inj.1 q;subst this;simp[Bk] at h2
  simpa [a1,a2] using h
def Fj (r:List UInt8→List UInt8→Int) (a b:List UInt8):Int :=
 if Bk a 126=true∨Bk b 126=true then
  if Bk a 126=true∧Bk b 126=true then r (a.drop 1) (b.drop 1) else F4 (Bk a 126) (Bk b 126) (-1)
 else if Bk a 94=true∨Bk b 94=true then
  if Bk a 94=true∧Bk b 94=true then r (a.drop 1) (b.drop 1)
  else if a=[]∨b=[] then F4 (Bk a 94) (Bk b 94) 1 else F4 (Bk a 94) (Bk b 94) (-1)
 else if a=[]∨b=[] then Gs (a.length:Int) (b.length:Int)
 else if Bi (As a 0)=true then
  if A9 Bi b=0 then 1
  else if ¬D9 (a.take (A9 Bi a)) (b.take (A9 Bi b))=0 then D9 (a.take (A9 Bi a)) (b.take (A9 Bi b))
  else r (a.drop (A9 Bi a)) (b.drop (A9 Bi b))
 else if A9 B7 b=0 then -1
 else if ¬Lib.compareBytes (a.take (A9 B7 a)) (b.take (A9 B7 b))=0 then Lib.compareBytes (a.take (A9 B7 a)) (b.take (A9 B7 b))
 else r (a.drop (A9 B7 a)) (b.drop (A9 B7 b))
def Io:Nat→List UInt8→List UInt8→Int
 |0,_,_=>0
 |n+1,a,b=>Fj (Io n) (a.drop (A9 Es a)) (b.drop (A9 Es b))
theorem Q7c (n : Nat) (a0 b0 : List UInt8) (h0 : a0.length + b0.length < n) (ha : a0.length ≤ 4194304) (hb : b0.length ≤ 4194304) :
  FnV Tryz.prog 180 [(.str a0),(.str b0)] (.int .i64 (Io n a0 b0)):=by
 refine A5 [.tmp 4] Tryz.func180 rfl Tryz.ntmps180 rfl rfl (fun B F hF=>?_)
 refine Aa [] [2,3] ?_
 refine Vp 0 rfl (fun g y=>∃(k:Nat) (a:List UInt8) (b:List UInt8),a.length+b.length < k∧a.length≤4194304∧b.length≤4194304∧Io n a0 b0=Io k a b∧y=⟨[(2,(.ptr 0 0)),(3,(.ptr 1 0)),(5,(.fn 216 [] [(.ptr 0 0),(.ptr 1 0)])),(7,(.fn 218 [] [(.fp (.agg [(.fn 217 [] [])]))]))],[(0,(.row [(.str a)] 9)),(1,(.row [(.str b)] 9))],3⟩∧g=k) [2,3,5,7] 3 (by omega) (fun hJ0=>?_) ?_
 ·refine Ad ?_
  refine Ap ?_
  refine Ey [] [2,3,5] ?_
  refine Ad ?_
  refine Ap ?_
  refine Ey [] [2,3,5,6] ?_
  refine Ad ?_
  refine Ap ?_
  refine Av 0 [] [2,3,5,7] [(0,6)] hk0 v0 c0 ?_
  refine Ad ?_
  refine Vq ?_
  refine Rg (y:=⟨[(2,(.ptr 0 0)),(3,(.ptr 1 0)),(5,(.fn 216 [] [(.ptr 0 0),(.ptr 1 0)])),(7,(.fn 218 [] [(.fp (.agg [(.fn 217 [] [])]))]))],[(0,(.row [(.str a0)] 9)),(1,(.row [(.str b0)] 9))],3⟩) [2,3,5,7] 3 (by omega) (by kernel_rfl) (hJ0 _ _ ⟨n,a0,b0,(by omega),(by omega),(by omega),(by rfl),(by kernel_rfl),rfl⟩)
 ·rintro g y ⟨k,a,b,fl0_1,fl0_2,fl0_3,fl0_4,rfl,rfl⟩
  obtain⟨k,rfl⟩:∃q,g=q+1:=⟨g-1,by omega⟩
  have hoa:=I5 Es a
  have hob:=I5 Es b
  refine D0 (fun y=>∃(a1:List UInt8) (b1:List UInt8),a1=a.drop (A9 Es a)∧b1=b.drop (A9 Es b)∧y=⟨[(2,(.ptr 0 0)),(3,(.ptr 1 0)),(5,(.fn 216 [] [(.ptr 0 0),(.ptr 1 0)])),(7,(.fn 218 [] [(.fp (.agg [(.fn 217 [] [])]))]))],[(0,(.row [(.str a1)] 9)),(1,(.row [(.str b1)] 9))],3⟩) [2,3,5,7] 3 (by omega) ?_ ?_
  ·refine Hc (CS:=[(4,(0≤(A9 Es a:Int)∧(A9 Es a:Int)≤(a.length:Int)∧(a.length:Int)≤(a.length:Int))),(9,(0≤(A9 Es b:Int)∧(A9 Es b:Int)≤(b.length:Int)∧(b.length:Int)≤(b.length:Int)))]) [] [2,3,5,7] [] (hk 3 (al:=[(.str a),(.fn 218 [] [(.fp (.agg [(.fn 217 [] [])]))])]) Hn ((Ie a (.fn 218 [] [.fp (.agg [.fn 217 [] []])]) Es (by omega) (fun c=>Y3 c)).of_args (ImpL.cons Imp.refl (ImpL.cons (Imp.clo rfl) ImpL.nil)))<|hk 8 (al:=[(.str b),(.fn 218 [] [(.fp (.agg [(.fn 217 [] [])]))])]) Hn ((Ie b (.fn 218 [] [.fp (.agg [.fn 217 [] []])]) Es (by omega) (fun c=>Y3 c)).of_args (ImpL.cons Imp.refl (ImpL.cons (Imp.clo rfl) ImpL.nil)))<|hk0) v0 (by refine cc _ ?_<|cc _ ?_ c0<;>omega) ?_
   refine⟨by kernel_rfl,((a.take a.length).drop (A9 Es a)),((b.take b.length).drop (A9 Es b)),?_,?_,(by kernel_rfl)⟩
   all_goals rw[List.take_length]
  ·rintro y1 ⟨a1,b1,ja,jb,rfl⟩
   have hla:a1.length≤a.length:=by rw[ja,List.length_drop];omega
   have hlb:b1.length≤b.length:=by rw[jb,List.length_drop];omega
   have hma:=Y4 ja
   have hmb:=Y4 jb
   have hxa:=fun k=>Q0z (s:=a1) (k:=k)
   have hxb:=fun k=>Q0z (s:=b1) (k:=k)
   have hda:=I5 Bi a1
   have hdb:=I5 Bi b1
   have hea:=I5 B7 a1
   have heb:=I5 B7 b1
   have e0:Io (k+1) a b=Fj (Io k) a1 b1:=by rw[ja,jb];rfl
   refine Ad ?_
   refine Ad ?_
   refine Ap ?_
   refine Br 1 0 [] [2,3,5,7,31] [] hk0 v0 c0 ?_
   refine Q44 (s':=[(2,(.ptr 0 0)),(3,(.ptr 1 0)),(5,(.fn 216 [] [(.ptr 0 0),(.ptr 1 0)])),(7,(.fn 218 [] [(.fp (.agg [(.fn 217 [] [])]))])),(31,(.fn 216 [] [(.ptr 0 0),(.ptr 1 0)])),(32,(.tup [(.bool (Bk a1 126)),(.bool (Bk b1 126))]))]) (al:=[(.int .u8 126)]) (f:=216) (cap:=[(.ptr 0 0),(.ptr 1 0)]) (al':=[(.int .u8 126),(.fp (.agg [(.str a1)])),(.fp (.agg [(.str b1)]))]) (h':=[]) (r:=(.tup [(.bool (Bk a1 126)),(.bool (Bk b1 126))])) (by kernel_rfl) (by kernel_rfl) (by exact Q17) (by kernel_rfl) (by kernel_rfl) (X51 a1 b1 (by omega) (by omega)) rfl (by kernel_rfl) ?_
   refine Av 2 [] [2,3,5,7,8,9] [] hk0 v0 c0 ?_
   refine Af [37] [2,3,5,7,8,9,38] [] hk0 v0 (cc 3 (p:=((Bk a1 126)=false→(!(Bk a1 126))=true)) (by simp)<|c0) ?_
   refine A8 (q:=(Bk a1 126)||(Bk b1 126)) (by kernel_rfl) (fun c1=>?_) (fun c1=>?_)
   ·try simp only[Ao] at c1
    refine Ad ?_
    refine Af [41] [2,3,5,7,8,9,42] [] hk0 v0 (cc 3 (p:=((Bk a1 126)=true→(Bk a1 126)=true)) (by simp)<|c0) ?_
    refine A8 (q:=(Bk a1 126)&&(Bk b1 126)) (by kernel_rfl) (fun c2=>?_) (fun c2=>?_)
    ·try simp only[Ao] at c2
     have h1:=hxa _ c2.1
     have h2:=hxb _ c2.2
     refine C2 (CS:=[(1,(0≤(1:Int)∧(1:Int)≤(a1.length:Int)∧(a1.length:Int)≤(a1.length:Int))),(3,(0≤(1:Int)∧(1:Int)≤(b1.length:Int)∧(b1.length:Int)≤(b1.length:Int)))]) [] [2,3,5,7] [] hk0 v0 (by refine cc _ ?_<|cc _ ?_ c0<;>omega) ?_
     refine Mv ⟨rfl,_,(by kernel_rfl:gcS _ _ _=some ⟨[(2,(.ptr 0 0)),(3,(.ptr 1 0)),(5,(.fn 216 [] [(.ptr 0 0),(.ptr 1 0)])),(7,(.fn 218 [] [(.fp (.agg [(.fn 217 [] [])]))]))],[(0,(.row [(.str ((a1.take a1.length).drop 1))] 9)),(1,(.row [(.str ((b1.take b1.length).drop 1))] 9))],3⟩),_,?_,k,((a1.take a1.length).drop 1),((b1.take b1.length).drop 1),?_,?_,?_,?_,(by kernel_rfl),rfl⟩
     all_goals (try simp only[List.take_length,List.drop_zero,List.length_drop] at *)
     ·omega
     ·omega
     ·omega
     ·omega
     ·rw[fl0_4,e0]
      unfold Fj
      rw[if_pos c1,if_pos c2]
    ·try simp only[Ao] at c2
     refine Ai ?_
     refine Af [] [4] [] (hk 2 Qr (Ps (Bk a1 126) (Bk b1 126) (-1) (by omega))<|hk0) v0 c0 ?_
     refine Ah ?_
     refine RK wR [(.int .i64 (F4 (Bk a1 126) (Bk b1 126) (-1)))] ?_
     refine Same.of_eq ?_
     simp only[An]
     try simp only[List.take_length,List.drop_zero] at *
     rw[fl0_4,e0]
     congr 1
     symm
     unfold Fj
     rw[if_pos c1,if_neg (by rcases c2 with h|h<;>simp[h])]
   ·try simp only[Ao] at c1
    refine Ai ?_
    refine Ad ?_
    refine Ad ?_
    refine Ap ?_
    refine Br 1 0 [] [2,3,5,7,51] [] hk0 v0 c0 ?_
    refine Q44 (s':=[(2,(.ptr 0 0)),(3,(.ptr 1 0)),(5,(.fn 216 [] [(.ptr 0 0),(.ptr 1 0)])),(7,(.fn 218 [] [(.fp (.agg [(.fn 217 [] [])]))])),(51,(.fn 216 [] [(.ptr 0 0),(.ptr 1 0)])),(52,(.tup [(.bool (Bk a1 94)),(.bool (Bk b1 94))]))]) (al:=[(.int .u8 94)]) (f:=216) (cap:=[(.ptr 0 0),(.ptr 1 0)]) (al':=[(.int .u8 94),(.fp (.agg [(.str a1)])),(.fp (.agg [(.str b1)]))]) (h':=[]) (r:=(.tup [(.bool (Bk a1 94)),(.bool (Bk b1 94))])) (by kernel_rfl) (by kernel_rfl) (by exact Q17) (by kernel_rfl) (by kernel_rfl) (X50 a1 b1 (by omega) (by omega)) rfl (by kernel_rfl) ?_
    refine Av 2 [] [2,3,5,7,10,11] [] hk0 v0 c0 ?_
    refine Af [57] [2,3,5,7,10,11,58] [] hk0 v0 (cc 3 (p:=((Bk a1 94)=false→(!(Bk a1 94))=true)) (by simp)<|c0) ?_
    refine A8 (q:=(Bk a1 94)||(Bk b1 94)) (by kernel_rfl) (fun c3=>?_) (fun c3=>?_)
    ·try simp only[Ao] at c3
     refine Ad ?_
     refine A1 ?_
     refine Af [62] [2,3,5,7,10,11,59] [] hk0 v0 (cc 3 (p:=((Bk a1 94)=true→(Bk a1 94)=true)) (by simp)<|c0) ?_
     refine A8 (q:=(Bk a1 94)&&(Bk b1 94)) (by kernel_rfl) (fun c4=>?_) (fun c4=>?_)
     ·try simp only[Ao] at c4
      have h1:=hxa _ c4.1
      have h2:=hxb _ c4.2
      refine C2 (CS:=[(1,(0≤(1:Int)∧(1:Int)≤(a1.length:Int)∧(a1.length:Int)≤(a1.length:Int))),(3,(0≤(1:Int)∧(1:Int)≤(b1.length:Int)∧(b1.length:Int)≤(b1.length:Int)))]) [] [2,3,5,7] [] hk0 v0 (by refine cc _ ?_<|cc _ ?_ c0<;>omega) ?_
      refine Mv ⟨rfl,_,(by kernel_rfl:gcS _ _ _=some ⟨[(2,(.ptr 0 0)),(3,(.ptr 1 0)),(5,(.fn 216 [] [(.ptr 0 0),(.ptr 1 0)])),(7,(.fn 218 [] [(.fp (.agg [(.fn 217 [] [])]))]))],[(0,(.row [(.str ((a1.take a1.length).drop 1))] 9)),(1,(.row [(.str ((b1.take b1.length).drop 1))] 9))],3⟩),_,?_,k,((a1.take a1.length).drop 1),((b1.take b1.length).drop 1),?_,?_,?_,?_,(by kernel_rfl),rfl⟩
      all_goals (try simp only[List.take_length,List.drop_zero,List.length_drop] at *)
      ·omega
      ·omega
      ·omega
      ·omega
      ·rw[fl0_4,e0]
       unfold Fj
       rw[if_neg (by simp[c1.1,c1.2]),if_pos c3,if_pos c4]
     ·try simp only[Ao] at c4
      refine Af (CS:=[(4,((!(decide (a1=[])))=true→(!(decide (a1=[])))=true)),(5,((decide (a1=[]))=false→(!(decide (a1=[])))=true))]) [72,73] [10,11,68] [] hk0 v0 (by refine cc _ ?_<|cc _ ?_ c0<;>simp) ?_
      refine A8 (q:=(decide (a1=[]))||(decide (b1=[]))) (by kernel_rfl) (fun c5=>?_) (fun c5=>?_)
      ·try simp only[Ao] at c5
       refine Af [] [4] [] (hk 2 Qr (Ps (Bk a1 94) (Bk b1 94) 1 (by omega))<|hk0) v0 c0 ?_
       refine Ah ?_
       refine RK wR [(.int .i64 (F4 (Bk a1 94) (Bk b1 94) 1))] ?_
       refine Same.of_eq ?_
       simp only[An]
       try simp only[List.take_length,List.drop_zero] at *
       rw[fl0_4,e0]
       congr 1
       symm
       unfold Fj
       rw[if_neg (by simp[c1.1,c1.2]),if_pos c3,if_neg (by rcases c4 with h|h<;>simp[h]),if_pos c5]
      ·try simp only[Ao] at c5
       refine Ai ?_
       refine Af [] [4] [] (hk 2 Qr (Ps (Bk a1 94) (Bk b1 94) (-1) (by omega))<|hk0) v0 c0 ?_
       refine Ah ?_
       refine RK wR [(.int .i64 (F4 (Bk a1 94) (Bk b1 94) (-1)))] ?_
       refine Same.of_eq ?_
       simp only[An]
       try simp only[List.take_length,List.drop_zero] at *
       rw[fl0_4,e0]
       congr 1
       symm
       unfold Fj
       rw[if_neg (by simp[c1.1,c1.2]),if_pos c3,if_neg (by rcases c4 with h|h<;>simp[h]),if_neg (by simp[c5.1,c5.2])]
    ·try simp only[Ao] at c3
     refine Ai ?_
     refine Ad ?_
     refine Af (CS:=[(4,((!(decide (a1=[])))=true→(!(decide (a1=[])))=true)),(5,((decide (a1=[]))=false→(!(decide (a1=[])))=true))]) [84,85] [2,3,5,7,86] [] hk0 v0 (by refine cc _ ?_<|cc _ ?_ c0<;>simp) ?_
     refine A8 (q:=(decide (a1=[]))||(decide (b1=[]))) (by kernel_rfl) (fun c6=>?_) (fun c6=>?_)
     ·try simp only[Ao] at c6
      refine Af [] [4] [] (hk 4 Un (U7 (a1.length:Int) (b1.length:Int))<|hk0) v0 c0 ?_
      refine Ah ?_
      refine RK wR [(.int .i64 (Gs (a1.length:Int) (b1.length:Int)))] ?_
      refine Same.of_eq ?_
      simp only[An]
      try simp only[List.take_length,List.drop_zero] at *
      rw[fl0_4,e0]
      congr 1
      symm
      unfold Fj
      rw[if_neg (by simp[c1.1,c1.2]),if_neg (by simp[c3.1,c3.2]),if_pos c6]
     ·try simp only[Ao] at c6
      have hpa:=List.length_pos_iff.2 c6.1
      have hpb:=List.length_pos_iff.2 c6.2
      refine Ai ?_
      refine Ad ?_
      refine Af [] [2,3,5,7,94] [] (hk 2 Ib (I4 (As a1 0))<|hk0) v0 (cc 1 (p:=(0≤(0:Int)∧0 < a1.length)) (by omega)<|c0) ?_
      refine A8 (q:=Bi (As a1 0)) (by kernel_rfl) (fun c7=>?_) (fun c7=>?_)
      ·try simp only[Ao] at c7
       refine C2 [] [2,3,5,7,12,13] [] (hk 1 (al:=[(.str a1),(.fn 160 [] [])]) Hn ((Ie a1 (.fn 160 [] []) Bi (by omega) (fun c=>FunV.of (by exact Ib) (I4 c))).of_args (ImpL.cons Imp.refl (ImpL.cons (Imp.clo rfl) ImpL.nil)))<|hk 3 (al:=[(.str b1),(.fn 160 [] [])]) Hn ((Ie b1 (.fn 160 [] []) Bi (by omega) (fun c=>FunV.of (by exact Ib) (I4 c))).of_args (ImpL.cons Imp.refl (ImpL.cons (Imp.clo rfl) ImpL.nil)))<|hk0) v0 c0 ?_
       refine Ad ?_
       refine Aa [] [2,3,5,7,12,13,100] ?_
       refine A6 (p:=(A9 Bi b1:Int)=0) (by kernel_rfl) (fun c8=>?_) (fun c8=>?_)
       ·refine Aa [] [4] ?_
        refine Ah ?_
        refine RK wR [(.int .i64 1)] ?_
        refine Same.of_eq ?_
        simp only[An]
        try simp only[List.take_length,List.drop_zero] at *
        rw[fl0_4,e0]
        congr 1
        symm
        unfold Fj
        rw[if_neg (by simp[c1.1,c1.2]),if_neg (by simp[c3.1,c3.2]),if_neg (by simp[c6.1,c6.2]),if_pos c7,if_pos (by omega)]
       ·refine Ai ?_
        refine Ad ?_
        refine C2 (CS:=[(2,(0≤(0:Int)∧(0:Int)≤(A9 Bi a1:Int)∧(A9 Bi a1:Int)≤(a1.length:Int))),(5,(0≤(0:Int)∧(0:Int)≤(A9 Bi b1:Int)∧(A9 Bi b1:Int)≤(b1.length:Int)))]) [] [2,3,5,7,12,13,14] [] (hk 6 Uo (S6 ((a1.take (A9 Bi a1)).drop 0) ((b1.take (A9 Bi b1)).drop 0))<|hk0) v0 (by refine cc _ ?_<|cc _ ?_ c0<;>omega) ?_
        refine Aa [] [2,3,5,7,12,13,14,109] ?_
        refine Dt (p:=(D9 ((a1.take (A9 Bi a1)).drop 0) ((b1.take (A9 Bi b1)).drop 0))=0) (by kernel_rfl) (fun c9=>?_) (fun c9=>?_)
        ·refine Aa [] [4] ?_
         refine Ah ?_
         refine RK wR [(.int .i64 (D9 ((a1.take (A9 Bi a1)).drop 0) ((b1.take (A9 Bi b1)).drop 0)))] ?_
         refine Same.of_eq ?_
         simp only[An]
         try simp only[List.take_length,List.drop_zero] at *
         rw[fl0_4,e0]
         congr 1
         symm
         unfold Fj
         rw[if_neg (by simp[c1.1,c1.2]),if_neg (by simp[c3.1,c3.2]),if_neg (by simp[c6.1,c6.2]),if_pos c7,if_neg (by omega),if_pos c9]
        ·refine Ai ?_
         refine C2 (CS:=[(2,(0≤(A9 Bi a1:Int)∧(A9 Bi a1:Int)≤(a1.length:Int)∧(a1.length:Int)≤(a1.length:Int))),(5,(0≤(A9 Bi b1:Int)∧(A9 Bi b1:Int)≤(b1.length:Int)∧(b1.length:Int)≤(b1.length:Int)))]) [] [2,3,5,7] [] hk0 v0 (by refine cc _ ?_<|cc _ ?_ c0<;>omega) ?_
         refine Mv ⟨rfl,_,(by kernel_rfl:gcS _ _ _=some ⟨[(2,(.ptr 0 0)),(3,(.ptr 1 0)),(5,(.fn 216 [] [(.ptr 0 0),(.ptr 1 0)])),(7,(.fn 218 [] [(.fp (.agg [(.fn 217 [] [])]))]))],[(0,(.row [(.str ((a1.take a1.length).drop (A9 Bi a1)))] 9)),(1,(.row [(.str ((b1.take b1.length).drop (A9 Bi b1)))] 9))],3⟩),_,?_,k,((a1.take a1.length).drop (A9 Bi a1)),((b1.take b1.length).drop (A9 Bi b1)),?_,?_,?_,?_,(by kernel_rfl),rfl⟩
         all_goals (try simp only[List.take_length,List.drop_zero,List.length_drop] at *)
         have h3:=U2 (p:=Bi) (s:=a1) (by omega) (by simpa using c7)
         ·omega
         ·omega
         ·omega
         ·omega
         ·rw[fl0_4,e0]
          unfold Fj
          rw[if_neg (by simp[c1.1,c1.2]),if_neg (by simp[c3.1,c3.2]),if_neg (by simp[c6.1,c6.2]),if_pos c7,if_neg (by omega),if_neg (fun q=>q c9)]
      ·try simp only[Ao] at c7
       refine Ai ?_
       refine C2 [] [2,3,5,7,15,16] [] (hk 1 (al:=[(.str a1),(.fn 161 [] [])]) Hn ((Ie a1 (.fn 161 [] []) B7 (by omega) (fun c=>FunV.of (by exact Mk) (Nw c))).of_args (ImpL.cons Imp.refl (ImpL.cons (Imp.clo rfl) ImpL.nil)))<|hk 3 (al:=[(.str b1),(.fn 161 [] [])]) Hn ((Ie b1 (.fn 161 [] []) B7 (by omega) (fun c=>FunV.of (by exact Mk) (Nw c))).of_args (ImpL.cons Imp.refl (ImpL.cons (Imp.clo rfl) ImpL.nil)))<|hk0) v0 c0 ?_
       refine Ad ?_
       refine Aa [] [2,3,5,7,15,16,122] ?_
       refine A6 (p:=(A9 B7 b1:Int)=0) (by kernel_rfl) (fun c10=>?_) (fun c10=>?_)
       ·refine Aa [] [4] ?_
        refine Ah ?_
        refine RK wR [(.int .i64 (-1))] ?_
        refine Same.of_eq ?_
        simp only[An]
        try simp only[List.take_length,List.drop_zero] at *
        rw[fl0_4,e0]
        congr 1
        symm
        unfold Fj
        rw[if_neg (by simp[c1.1,c1.2]),if_neg (by simp[c3.1,c3.2]),if_neg (by simp[c6.1,c6.2]),if_neg (by simp[c7]),if_pos (by omega)]
       ·refine Ai ?_
        refine Ad ?_
        refine C2 (CS:=[(2,(0≤(0:Int)∧(0:Int)≤(A9 B7 a1:Int)∧(A9 B7 a1:Int)≤(a1.length:Int))),(5,(0≤(0:Int)∧(0:Int)≤(A9 B7 b1:Int)∧(A9 B7 b1:Int)≤(b1.length:Int)))]) [] [2,3,5,7,15,16,17] [] (hk 6 Q19 (Q5j ((a1.take (A9 B7 a1)).drop 0) ((b1.take (A9 B7 b1)).drop 0))<|hk0) v0 (by refine cc _ ?_<|cc _ ?_ c0<;>omega) ?_
        refine Aa [] [2,3,5,7,15,16,17,131] ?_
        refine Dt (p:=(Lib.compareBytes ((a1.take (A9 B7 a1)).drop 0) ((b1.take (A9 B7 b1)).drop 0))=0) (by kernel_rfl) (fun c11=>?_) (fun c11=>?_)
        ·refine Aa [] [4] ?_
         refine Ah ?_
         refine RK wR [(.int .i64 (Lib.compareBytes ((a1.take (A9 B7 a1)).drop 0) ((b1.take (A9 B7 b1)).drop 0)))] ?_
         refine Same.of_eq ?_
         simp only[An]
         try simp only[List.take_length,List.drop_zero] at *
         rw[fl0_4,e0]
         congr 1
         symm
         unfold Fj
         rw[if_neg (by simp[c1.1,c1.2]),if_neg (by simp[c3.1,c3.2]),if_neg (by simp[c6.1,c6.2]),if_neg (by simp[c7]),if_neg (by omega),if_pos c11]
        ·refine Ai ?_
         refine C2 (CS:=[(2,(0≤(A9 B7 a1:Int)∧(A9 B7 a1:Int)≤(a1.length:Int)∧(a1.length:Int)≤(a1.length:Int))),(5,(0≤(A9 B7 b1:Int)∧(A9 B7 b1:Int)≤(b1.length:Int)∧(b1.length:Int)≤(b1.length:Int)))]) [] [2,3,5,7] [] hk0 v0 (by refine cc _ ?_<|cc _ ?_ c0<;>omega) ?_
         refine Mv ⟨rfl,_,(by kernel_rfl:gcS _ _ _=some ⟨[(2,(.ptr 0 0)),(3,(.ptr 1 0)),(5,(.fn 216 [] [(.ptr 0 0),(.ptr 1 0)])),(7,(.fn 218 [] [(.fp (.agg [(.fn 217 [] [])]))]))],[(0,(.row [(.str ((a1.take a1.length).drop (A9 B7 a1)))] 9)),(1,(.row [(.str ((b1.take b1.length).drop (A9 B7 b1)))] 9))],3⟩),_,?_,k,((a1.take a1.length).drop (A9 B7 a1)),((b1.take b1.length).drop (A9 B7 b1)),?_,?_,?_,?_,(by kernel_rfl),rfl⟩
         all_goals (try simp only[List.take_length,List.drop_zero,List.length_drop] at *)
         have hml:B7 (As a1 0)=true:=by
          rcases hma with q|q
          ·exact absurd q c6.1
          ·exact X0u q (by omega) (by simp_all) (by simp_all) (by simp_all)
         have h3:=U2 (p:=B7) (s:=a1) (by omega) hml
         ·omega
         ·omega
         ·omega
         ·omega
         ·rw[fl0_4,e0]
          unfold Fj
          rw[if_neg (by simp[c1.1,c1.2]),if_neg (by simp[c3.1,c3.2]),if_neg (by simp[c6.1,c6.2]),if_neg (by simp[c7]),if_neg (by omega),if_neg (fun q=>q c11)]
end Sv
end
section
open Go Go.RowKit
namespace Sv
attribute [local irreducible] SW SO Bn
set_option maxHeartbeats 1000000
set_option maxRecDepth 100000
theorem Q2i:Au Tryz.prog 143:=Ay Tryz.func143 (by kernel_rfl) rfl
def Jv (a b:List UInt8):Int:=Gp (a.length+b.length+1) a b
def Hz (a b:List UInt8):Int:=Io (a.length+b.length+1) a b
theorem Q20 (a b:List UInt8) (ha:a.length≤4194304) (hb:b.length≤4194304):FnV Tryz.prog 178 [.str a,.str b] (.int .i64 (Jv a b)):=X46 _ a b (by omega) ha hb
theorem W9 (a b:List UInt8) (ha:a.length≤4194304) (hb:b.length≤4194304):FnV Tryz.prog 180 [.str a,.str b] (.int .i64 (Hz a b)):=Q7c _ a b (by omega) ha hb
theorem Yr {a:List UInt8} (h:a.length≤4194304):(orS a [48]).length≤4194304:=by unfold orS;split<;>simp[h]
def Cy (k:Int) (a b:(List UInt8 × List UInt8 × List UInt8)):Int × Int :=
 if k=2 then (orI (D9 a.1 b.1) (Jv a.2.1 b.2.1),Jv (orS a.2.2 [48]) (orS b.2.2 [48]))
 else if a.2.2=[]∨b.2.2=[] then (orI (D9 a.1 b.1) (Hz a.2.1 b.2.1),F4 (!decide (a.2.2=[])) (!decide (b.2.2=[])) 1)
 else (orI (D9 a.1 b.1) (Hz a.2.1 b.2.1),Hz a.2.2 b.2.2)
def P2 (a b:List UInt8) (c d:Int):Int:=if c=0∧¬a=[]∧¬b=[] then d else c
def Ks (c op o:Int):Bool :=
 if c < 0 then !decide (Go.bits .and .i64 op 4=0)||!decide (Go.bits .and .i64 o 1=0)
 else if 0 < c then !decide (Go.bits .and .i64 op 1=0)||!decide (Go.bits .and .i64 o 4=0)
 else !decide (Go.bits .and .i64 op o=0)
def Kr (k:Int) (a b:List UInt8):Int:=P2 (Bj k a b).1.2.2 (Bj k a b).2.1.2.2 (Cy k (Bj k a b).1 (Bj k a b).2.1).1 (Cy k (Bj k a b).1 (Bj k a b).2.1).2
def Ab (k op:Int) (a:List UInt8) (o:Int) (b:List UInt8):Bool × Int :=
 if (¬k=1∧¬k=2)∨op < 0∨7 < op∨o < 0∨7 < o then (false,1)
 else if op=0∨o=0 then (true,0)
 else if ¬(Bj k a b).2.2=0 then (false,(Bj k a b).2.2)
 else (Ks (Kr k a b) op o,0)
theorem Q1m (l:List UInt8):(Cv l).1.length≤l.length∧(Cv l).2.1.length≤l.length∧(Cv l).2.2.length≤l.length:=by
 unfold Cv
 split
 ·unfold N4
  refine⟨?_,?_,?_⟩
  ·show(if _ then _ else _:List UInt8).length≤_
   split<;>simp;omega
  ·show(if _ then _ else _:List UInt8).length≤_
   split<;>(try rw[List.length_take])<;>split<;>simp<;>omega
  ·show(if _ then _ else _:List UInt8).length≤_
   split<;>(try rw[List.length_drop])<;>(try split)<;>simp<;>omega
 ·simp
theorem Q3p (k:Int) (a b:List UInt8):(Bj k a b).1.1.length≤a.length∧(Bj k a b).1.2.1.length≤a.length∧(Bj k a b).1.2.2.length≤a.length∧(Bj k a b).2.1.1.length≤b.length∧(Bj k a b).2.1.2.1.length≤b.length∧(Bj k a b).2.1.2.2.length≤b.length:=by
 have h1:=Q1m a
 have h2:=Q1m b
 unfold Bj
 split
 ·simp
 ·split<;>simp<;>omega
theorem X2 (k : Int) (a b : (List UInt8 × List UInt8 × List UInt8)) (ha : a.1.length ≤ 4194304 ∧ a.2.1.length ≤ 4194304 ∧ a.2.2.length ≤ 4194304) (hb : b.1.length ≤ 4194304 ∧ b.2.1.length ≤ 4194304 ∧ b.2.2.length ≤ 4194304) :
  FnV Tryz.prog 143 [(.int .i64 k),(.agg [(.str a.1),(.str a.2.1),(.str a.2.2)]),(.agg [(.str b.1),(.str b.2.1),(.str b.2.2)])] (.tup [.int .i64 (Cy k a b).1,.int .i64 (Cy k a b).2]):=by
 refine A5 [.tmp 6,.tmp 7] Tryz.func143 rfl Tryz.ntmps143 rfl rfl (fun B F hF=>?_)
 refine Af [] [0,4,5] [(1,4),(2,5)] hk0 v0 c0 ?_
 refine Af [] [0,4,5,8] [] (hk 4 Uo (S6 a.1 b.1)<|hk0) v0 c0 ?_
 refine Ad ?_
 refine Aa [] [4,5,8,15] ?_
 refine A6 (p:=k=2) (by kernel_rfl) (fun c1=>?_) (fun c1=>?_)
 ·refine C2 [] [6,7] [(7,22),(11,26),(15,30)] (hk 5 Q2d (Q20 a.2.1 b.2.1 (by omega) (by omega))<|hk 7 Qs (Pu (D9 a.1 b.1) (Jv a.2.1 b.2.1))<|hk 11 Q2c (Yq a.2.2 [48])<|hk 15 Q2c (Yq b.2.2 [48])<|hk 16 Q2d (Q20 (orS a.2.2 [48]) (orS b.2.2 [48]) (by exact Yr (by first|exact ha.2.2|exact hb.2.2)) (by exact Yr (by first|exact ha.2.2|exact hb.2.2)))<|hk0) (vk 7 22 (b:=(Ag [D9 a.1 b.1,Jv a.2.1 b.2.1])) (Imp.list (f:=AV.int .i64) rfl)<|vk 11 26 (b:=(C4 ([a.2.2,[48]]))) (Imp.list (f:=AV.str) rfl)<|vk 15 30 (b:=(C4 ([b.2.2,[48]]))) (Imp.list (f:=AV.str) rfl)<|v0) c0 ?_
  refine Ah ?_
  refine RK wR [(.int .i64 (orI (D9 a.1 b.1) (Jv a.2.1 b.2.1))),(.int .i64 (Jv (orS a.2.2 [48]) (orS b.2.2 [48])))] ?_
  refine Same.of_eq ?_
  simp only[An]
  unfold Cy
  rw[if_pos c1]
 ·refine Ai ?_
  refine Af [] [4,5,8] [(7,39)] (hk 5 Q2b (W9 a.2.1 b.2.1 (by omega) (by omega))<|hk 7 Qs (Pu (D9 a.1 b.1) (Hz a.2.1 b.2.1))<|hk0) (vk 7 39 (b:=(Ag [D9 a.1 b.1,Hz a.2.1 b.2.1])) (Imp.list (f:=AV.int .i64) rfl)<|v0) c0 ?_
  refine Ad ?_
  refine Af (CS:=[(5,((!(decide (a.2.2=[])))=true→(!(decide (a.2.2=[])))=true)),(6,((!(decide (a.2.2=[])))=true→(!(decide (a.2.2=[])))=true)),(7,((decide (a.2.2=[]))=false→(!(decide (a.2.2=[])))=true))]) [45,46,47] [4,5,8,48] [] hk0 v0 (by refine cc _ ?_<|cc _ ?_<|cc _ ?_ c0<;>simp) ?_
  refine A8 (q:=(decide (a.2.2=[]))||(decide (b.2.2=[]))) (by kernel_rfl) (fun c2=>?_) (fun c2=>?_)
  ·try simp only[Ao] at c2
   refine Af [] [6,7] [] (hk 7 Qr (Ps (!decide (a.2.2=[])) (!decide (b.2.2=[])) 1 (by omega))<|hk0) v0 c0 ?_
   refine Ah ?_
   refine RK wR [(.int .i64 (orI (D9 a.1 b.1) (Hz a.2.1 b.2.1))),(.int .i64 (F4 (!decide (a.2.2=[])) (!decide (b.2.2=[])) 1))] ?_
   refine Same.of_eq ?_
   simp only[An]
   unfold Cy
   rw[if_neg c1,if_pos c2]
  ·try simp only[Ao] at c2
   refine Ai ?_
   refine Af [] [6,7] [] (hk 5 Q2b (W9 a.2.2 b.2.2 (by omega) (by omega))<|hk0) v0 c0 ?_
   refine Ah ?_
   refine RK wR [(.int .i64 (orI (D9 a.1 b.1) (Hz a.2.1 b.2.1))),(.int .i64 (Hz a.2.2 b.2.2))] ?_
   refine Same.of_eq ?_
   simp only[An]
   unfold Cy
   rw[if_neg c1,if_neg (by simp[c2.1,c2.2])]
theorem X0r (k op : Int) (a : List UInt8) (o : Int) (b : List UInt8) (ha : a.length ≤ 4194304) (hb : b.length ≤ 4194304) :
  FnV Tryz.prog 170 [(.int .i64 k),(.int .i64 op),(.str a),(.int .i64 o),(.str b)] (.tup [.bool (Ab k op a o b).1,.int .i64 (Ab k op a o b).2]):=by
 have hbl:=Q3p k a b
 refine A5 [.tmp 10,.tmp 11] Tryz.func170 rfl Tryz.ntmps170 rfl rfl (fun B F hF=>?_)
 refine Aa [] [0,1,2,3,4] ?_
 refine Ad ?_
 refine A1 ?_
 refine Af (CS:=[(4,((!decide (k=1))=true→(!decide (k=1))=true)),(5,((!decide (k=1))=true→(!decide (k=1))=true)),(8,((!((!decide (k=1))&&(!decide (k=2))))=true→(!((!decide (k=1))&&(!decide (k=2))))=true)),(9,(((!decide (k=1))&&(!decide (k=2)))=false→(!((!decide (k=1))&&(!decide (k=2))))=true)),(12,((!(((!decide (k=1))&&(!decide (k=2)))||(decide (op < 0))))=true→(!(((!decide (k=1))&&(!decide (k=2)))||(decide (op < 0))))=true)),(13,((((!decide (k=1))&&(!decide (k=2)))||(decide (op < 0)))=false→(!(((!decide (k=1))&&(!decide (k=2)))||(decide (op < 0))))=true)),(16,((!((((!decide (k=1))&&(!decide (k=2)))||(decide (op < 0)))||(decide (7 < op))))=true→(!((((!decide (k=1))&&(!decide (k=2)))||(decide (op < 0)))||(decide (7 < op))))=true)),(17,(((((!decide (k=1))&&(!decide (k=2)))||(decide (op < 0)))||(decide (7 < op)))=false→(!((((!decide (k=1))&&(!decide (k=2)))||(decide (op < 0)))||(decide (7 < op))))=true)),(20,((!(((((!decide (k=1))&&(!decide (k=2)))||(decide (op < 0)))||(decide (7 < op)))||(decide (o < 0))))=true→(!(((((!decide (k=1))&&(!decide (k=2)))||(decide (op < 0)))||(decide (7 < op)))||(decide (o < 0))))=true)),(21,((((((!decide (k=1))&&(!decide (k=2)))||(decide (op < 0)))||(decide (7 < op)))||(decide (o < 0)))=false→(!(((((!decide (k=1))&&(!decide (k=2)))||(decide (op < 0)))||(decide (7 < op)))||(decide (o < 0))))=true))]) [21,22,25,26,29,30,33,34,37,38] [0,1,2,3,4,17] [] hk0 v0 (by refine cc _ ?_<|cc _ ?_<|cc _ ?_<|cc _ ?_<|cc _ ?_<|cc _ ?_<|cc _ ?_<|cc _ ?_<|cc _ ?_<|cc _ ?_ c0<;>first|omega|(simp;omega)|(simp;done)|(intros;simp_all;omega)|(intros;simp_all;done)) ?_
 refine A8 (q:=(((((!decide (k=1))&&(!decide (k=2)))||(decide (op < 0)))||(decide (7 < op)))||(decide (o < 0)))||(decide (7 < o))) (by kernel_rfl) (fun c1=>?_) (fun c1=>?_)
 ·try simp only[Ao] at c1
  refine Aa [] [10,11] ?_
  refine Ah ?_
  refine RK wR [(.bool false),(.int .i64 1)] ?_
  refine Same.of_eq ?_
  simp only[An]
  rw[show Ab k op a o b=(false,1) from by unfold Ab;rw[if_pos (by omega)]]
 ·try simp only[Ao] at c1
  refine Af (CS:=[(4,((!(decide (op=0)))=true→(!(decide (op=0)))=true)),(5,((decide (op=0))=false→(!(decide (op=0)))=true))]) [44,45] [0,1,2,3,4,40] [] hk0 v0 (by refine cc _ ?_<|cc _ ?_ c0<;>simp) ?_
  refine A8 (q:=(decide (op=0))||(decide (o=0))) (by kernel_rfl) (fun c2=>?_) (fun c2=>?_)
  ·try simp only[Ao] at c2
   refine Aa [] [10,11] ?_
   refine Ah ?_
   refine RK wR [(.bool true),(.int .i64 0)] ?_
   refine Same.of_eq ?_
   simp only[An]
   rw[show Ab k op a o b=(true,0) from by unfold Ab;rw[if_neg (by omega),if_pos (by omega)]]
  ·try simp only[Ao] at c2
   refine Ai ?_
   refine Af [] [0,1,3,12,13,14] [(11,12),(12,13)] (hk 3 Q2j (Q3m k a b (by omega) (by omega))<|hk0) v0 c0 ?_
   refine Ad ?_
   refine Aa [] [0,1,3,12,13,14,56] ?_
   refine Dt (p:=((Bj k a b).2.2)=0) (by kernel_rfl) (fun c3=>?_) (fun c3=>?_)
   ·refine Aa [] [10,11] ?_
    refine Ah ?_
    refine RK wR [(.bool false),(.int .i64 ((Bj k a b).2.2))] ?_
    refine Same.of_eq ?_
    simp only[An]
    rw[show Ab k op a o b=(false,(Bj k a b).2.2) from by unfold Ab;rw[if_neg (by omega),if_neg (by omega),if_pos (by omega)]]
   ·refine Ai ?_
    refine Af [] [1,3,12,13,15,16] [] (hk 3 Q2i (X2 k (Bj k a b).1 (Bj k a b).2.1 ⟨by omega,by omega,by omega⟩ ⟨by omega,by omega,by omega⟩)<|hk0) v0 c0 ?_
    refine D0 (fun y=>∃(c:Int),c=P2 (Bj k a b).1.2.2 (Bj k a b).2.1.2.2 (Cy k (Bj k a b).1 (Bj k a b).2.1).1 (Cy k (Bj k a b).1 (Bj k a b).2.1).2∧y=⟨[(1,(.int .i64 op)),(3,(.int .i64 o)),(15,(.int .i64 c))],[],2⟩) [1,3,15] 2 (by omega) ?_ ?_
    ·refine Af (CS:=[(4,((decide (((Cy k (Bj k a b).1 (Bj k a b).2.1).1)=0))=true→(decide (((Cy k (Bj k a b).1 (Bj k a b).2.1).1)=0))=true)),(5,((decide (((Cy k (Bj k a b).1 (Bj k a b).2.1).1)=0))=true→(decide (((Cy k (Bj k a b).1 (Bj k a b).2.1).1)=0))=true)),(6,((decide (((Cy k (Bj k a b).1 (Bj k a b).2.1).1)=0))=true→(decide (((Cy k (Bj k a b).1 (Bj k a b).2.1).1)=0))=true)),(9,(((decide (((Cy k (Bj k a b).1 (Bj k a b).2.1).1)=0))&&(!decide (((Bj k a b).1).2.2=[])))=true→((decide (((Cy k (Bj k a b).1 (Bj k a b).2.1).1)=0))&&(!decide (((Bj k a b).1).2.2=[])))=true)),(10,(((decide (((Cy k (Bj k a b).1 (Bj k a b).2.1).1)=0))&&(!decide (((Bj k a b).1).2.2=[])))=true→((decide (((Cy k (Bj k a b).1 (Bj k a b).2.1).1)=0))&&(!decide (((Bj k a b).1).2.2=[])))=true)),(11,(((decide (((Cy k (Bj k a b).1 (Bj k a b).2.1).1)=0))&&(!decide (((Bj k a b).1).2.2=[])))=true→((decide (((Cy k (Bj k a b).1 (Bj k a b).2.1).1)=0))&&(!decide (((Bj k a b).1).2.2=[])))=true))]) [68,69,70,73,74,75] [1,3,15,16,76] [] hk0 v0 (by refine cc _ ?_<|cc _ ?_<|cc _ ?_<|cc _ ?_<|cc _ ?_<|cc _ ?_ c0<;>simp) ?_
     refine A8 (q:=((decide (((Cy k (Bj k a b).1 (Bj k a b).2.1).1)=0))&&(!decide (((Bj k a b).1).2.2=[])))&&(!decide (((Bj k a b).2.1).2.2=[]))) (by kernel_rfl) (fun c4=>?_) (fun c4=>?_)
     ·try simp only[Ao] at c4
      refine Ap ?_
      refine Ey [] [1,3,15] ?_
      refine⟨by kernel_rfl,((Cy k (Bj k a b).1 (Bj k a b).2.1).2),?_,(by kernel_rfl)⟩
      unfold P2
      rw[if_pos (by simp_all)]
     ·try simp only[Ao] at c4
      refine Ai ?_
      refine⟨by kernel_rfl,((Cy k (Bj k a b).1 (Bj k a b).2.1).1),?_,(by kernel_rfl)⟩
      unfold P2
      rw[if_neg (fun q=>by simp[q.1,q.2.1,q.2.2] at c4)]
    ·rintro y1 ⟨c,jc,rfl⟩
     refine Ad ?_
     refine A1 ?_
     refine Aa [] [1,3,15,78] ?_
     refine A6 (p:=c < 0) (by kernel_rfl) (fun c5=>?_) (fun c5=>?_)
     ·refine Ad ?_
      refine Ap ?_
      refine Br 1 0 [] [3,81] [] hk0 v0 c0 ?_
      refine Ot (s':=[(3,(.int .i64 o)),(81,(.int .i64 op)),(82,(.int .i64 (Go.bits .and .i64 op 4)))]) (.int .i64 (Go.bits .and .i64 op 4)) (by kernel_rfl) (Og (.inl (by kernel_rfl)) (.inl (by kernel_rfl))) (by kernel_rfl) ?_
      refine Br 3 2 [85] [84,85] [] hk0 v0 c0 ?_
      refine Q45 (s':=[(84,(.bool (!decide ((Go.bits .and .i64 op 4)=0)))),(85,(.cond (!(!decide ((Go.bits .and .i64 op 4)=0))) (.int .i64 o))),(86,(.cond (!(!decide ((Go.bits .and .i64 op 4)=0))) (.int .i64 (Go.bits .and .i64 o 1))))]) (q:=!(!decide ((Go.bits .and .i64 op 4)=0))) (.int .i64 (Go.bits .and .i64 o 1)) (by kernel_rfl) (fun cg=>(Og (.inr ⟨!(!decide ((Go.bits .and .i64 op 4)=0)),by kernel_rfl,by first|exact cg|simp_all⟩) (.inl (by kernel_rfl)))) (by kernel_rfl) ?_
      refine Av (CS:=[(6,((!(!decide ((Go.bits .and .i64 op 4)=0)))=true→(!(!decide ((Go.bits .and .i64 op 4)=0)))=true)),(7,((!decide ((Go.bits .and .i64 op 4)=0))=false→(!(!decide ((Go.bits .and .i64 op 4)=0)))=true))]) 6 [87] [10,11] [] hk0 v0 (by refine cc _ ?_<|cc _ ?_ c0<;>simp) ?_
      refine Ah ?_
      refine RK wR [(.bool ((!decide ((Go.bits .and .i64 op 4)=0))||(!decide ((Go.bits .and .i64 o 1)=0)))),(.int .i64 0)] ?_
      refine Same.of_eq ?_
      simp only[An]
      rw[show Ab k op a o b=(Ks (Kr k a b) op o,0) from by unfold Ab;rw[if_neg (by omega),if_neg (by omega),if_neg (by omega)]]
      rw[show Kr k a b=c from jc.symm]
      unfold Ks
      rw[if_pos (by omega)]
     ·refine Aa [] [1,3,89] ?_
      refine A6 (p:=0 < c) (by kernel_rfl) (fun c6=>?_) (fun c6=>?_)
      ·refine Ad ?_
       refine Ap ?_
       refine Br 1 0 [] [3,92] [] hk0 v0 c0 ?_
       refine Ot (s':=[(3,(.int .i64 o)),(92,(.int .i64 op)),(93,(.int .i64 (Go.bits .and .i64 op 1)))]) (.int .i64 (Go.bits .and .i64 op 1)) (by kernel_rfl) (Og (.inl (by kernel_rfl)) (.inl (by kernel_rfl))) (by kernel_rfl) ?_
       refine Br 3 2 [96] [95,96] [] hk0 v0 c0 ?_
       refine Q45 (s':=[(95,(.bool (!decide ((Go.bits .and .i64 op 1)=0)))),(96,(.cond (!(!decide ((Go.bits .and .i64 op 1)=0))) (.int .i64 o))),(97,(.cond (!(!decide ((Go.bits .and .i64 op 1)=0))) (.int .i64 (Go.bits .and .i64 o 4))))]) (q:=!(!decide ((Go.bits .and .i64 op 1)=0))) (.int .i64 (Go.bits .and .i64 o 4)) (by kernel_rfl) (fun cg=>(Og (.inr ⟨!(!decide ((Go.bits .and .i64 op 1)=0)),by kernel_rfl,by first|exact cg|simp_all⟩) (.inl (by kernel_rfl)))) (by kernel_rfl) ?_
       refine Av (CS:=[(6,((!(!decide ((Go.bits .and .i64 op 1)=0)))=true→(!(!decide ((Go.bits .and .i64 op 1)=0)))=true)),(7,((!decide ((Go.bits .and .i64 op 1)=0))=false→(!(!decide ((Go.bits .and .i64 op 1)=0)))=true))]) 6 [98] [10,11] [] hk0 v0 (by refine cc _ ?_<|cc _ ?_ c0<;>simp) ?_
       refine Ah ?_
       refine RK wR [(.bool ((!decide ((Go.bits .and .i64 op 1)=0))||(!decide ((Go.bits .and .i64 o 4)=0)))),(.int .i64 0)] ?_
       refine Same.of_eq ?_
       simp only[An]
       rw[show Ab k op a o b=(Ks (Kr k a b) op o,0) from by unfold Ab;rw[if_neg (by omega),if_neg (by omega),if_neg (by omega)]]
       rw[show Kr k a b=c from jc.symm]
       unfold Ks
       rw[if_neg (by omega),if_pos (by omega)]
      ·refine Ai ?_
       refine Ad ?_
       refine Ap ?_
       refine Br 2 0 [] [100,101] [] hk0 v0 c0 ?_
       refine Ot (s':=[(100,(.int .i64 op)),(101,(.int .i64 o)),(102,(.int .i64 (Go.bits .and .i64 op o)))]) (.int .i64 (Go.bits .and .i64 op o)) (by kernel_rfl) (Og (.inl (by kernel_rfl)) (.inl (by kernel_rfl))) (by kernel_rfl) ?_
       refine Av 3 [] [10,11] [] hk0 v0 c0 ?_
       refine Ah ?_
       refine RK wR [(.bool (!decide ((Go.bits .and .i64 op o)=0))),(.int .i64 0)] ?_
       refine Same.of_eq ?_
       simp only[An]
       rw[show Ab k op a o b=(Ks (Kr k a b) op o,0) from by unfold Ab;rw[if_neg (by omega),if_neg (by omega),if_neg (by omega)]]
       rw[show Kr k a b=c from jc.symm]
       unfold Ks
       rw[if_neg (by omega),if_neg (by omega)]
theorem Ti:Ih Ab:=fun k op a o b ha hb=>X0r k op a o b ha hb
end Sv
end
section
open Go Go.RowKit
namespace Sv
attribute [local irreducible] SW SO Bn
set_option maxHeartbeats 1000000
set_option maxRecDepth 100000
theorem Ul:Au Tryz.prog 33:=Ay Tryz.func33 (by kernel_rfl) rfl
theorem Q1s:Au Tryz.prog 61:=Ay Tryz.func61 (by kernel_rfl) rfl
theorem Q13:Au Tryz.prog 27:=Ay Tryz.func27 (by kernel_rfl) rfl
theorem Gg {α:Type} [Inhabited α] {l:List α} {i:Nat} (h:i < l.length):l.take (i+1)=l.take i++[nth l i]:=by
 rw[List.take_add_one,S7 h];rfl
theorem Ph {α β:Type} [Inhabited α] {l:List α} {i m:Nat} (f:α→β) (h:i+m≤l.length):(List.range m).map (fun k=>f (nth l (i+k)))=((l.drop i).take m).map f:=by
 refine List.ext_getElem (by simp;omega) fun j h1 h2=>?_
 simp only[List.length_map,List.length_range] at h1
 simp only[List.getElem_map,List.getElem_range,List.getElem_take,List.getElem_drop,nth,List.getElem?_eq_getElem (show i+j < l.length by omega),Option.getD_some]
theorem Sm {α β:Type} [Inhabited α] {l:List α} {i:Nat} (f:α→β) (h:i≤l.length):(List.range (l.length-i)).map (fun k=>f (nth l (i+k)))=(l.drop i).map f:=by
 rw[Ph f (by omega),List.take_of_length_le (by simp)]
def Cb (n:Int):List Int→List Int
 |[]=>[n]
 |x::r=>if x < n then x::Cb n r else if x=n then x::r else n::x::r
theorem Q73 {n:Int} {l:List Int} {i:Nat} (hi:i < l.length) (h:nth l i < n):Cb n (l.drop i)=nth l i::Cb n (l.drop (i+1)):=by rw[Mm hi,Cb,if_pos h]
theorem Q72 {n:Int} {l:List Int} {i:Nat} (hi:i < l.length) (h:¬nth l i < n) (h2:nth l i=n):Cb n (l.drop i)=l.drop i:=by rw[Mm hi,Cb,if_neg h,if_pos h2]
theorem Sq {n:Int} {l:List Int} {i:Nat} (h:i < l.length→¬nth l i < n∧¬nth l i=n):Cb n (l.drop i)=n::l.drop i:=by
 by_cases hi:i < l.length
 ·rw[Mm hi,Cb,if_neg (h hi).1,if_neg (h hi).2]
 ·rw[List.drop_eq_nil_of_le (by omega)];rfl
theorem Ni (n:Int):∀l:List Int,(Cb n l).length≤l.length+1
 |[]=>Nat.le_refl _
 |x::r=>by
  have:=Ni n r
  unfold Cb
  split
  ·simp only[List.length_cons];omega
  ·split<;>simp
theorem put1_mem {x n:Int}:∀{l:List Int},x∈Cb n l↔x=n∨x∈l
 |[]=>by simp[Cb]
 |y::r=>by
  unfold Cb
  split
  ·rw[List.mem_cons,put1_mem,List.mem_cons]
   constructor
   ·rintro (h|h|h)<;>simp[h]
   ·rintro (h|h|h)<;>simp[h]
  ·split
   ·rename_i h;subst h;simp
   ·rw[List.mem_cons]
def Cq:List Int→Prop
 |[]=>True
 |x::r=>(∀y∈r,x < y)∧Cq r
theorem So {n:Int}:∀{l:List Int},Cq l→Cq (Cb n l)
 |[],_=>⟨by simp,trivial⟩
 |y::r,h=>by
  unfold Cb
  split
  ·rename_i hy
   refine⟨fun z hz=>?_,So h.2⟩
   rcases put1_mem.1 hz with rfl|hz
   ·exact hy
   ·exact h.1 z hz
  ·split
   ·exact h
   ·rename_i h1 h2
    refine⟨fun z hz=>?_,h⟩
    rcases List.mem_cons.1 hz with rfl|hz
    ·omega
    ·have:=h.1 z hz;omega
def idN (n:Nat) (x:Int):Int:=Int.tmod (if x < 0 then 0-(x+1) else x) (n:Int)
def G9 (n:Nat) (l:List Int):List Int:=l.foldl (fun s x=>Cb (idN n x) s) []
def Cw (n:Nat) (l:List Int):List Int:=if n=0 then [] else G9 n l
theorem X6q {n:Nat} {l:List Int} {i:Nat} (h:i < l.length):G9 n (l.take (i+1))=Cb (idN n (nth l i)) (G9 n (l.take i)):=by
 unfold G9;rw[Gg h,List.foldl_append];rfl
theorem Q06 {n:Nat}:∀{l s:List Int},(l.foldl (fun s x=>Cb (idN n x) s) s).length≤s.length+l.length
 |[],s=>Nat.le_refl _
 |x::l,s=>by
  have h1:=Q06 (n:=n) (l:=l) (s:=Cb (idN n x) s)
  have h2:=Ni (idN n x) s
  simp only[List.foldl_cons,List.length_cons];omega
theorem Q4m (n:Nat) (l:List Int):(G9 n l).length≤l.length:=by have:=Q06 (n:=n) (l:=l) (s:=[]);simpa [G9] using this
theorem Q4k (n:Nat) (l:List Int):(Cw n l).length≤l.length:=by
 unfold Cw
 split
 ·simp
 ·exact Q4m n l
theorem Q08 {n:Nat} {x:Int}:∀{l s:List Int},x∈l.foldl (fun s x=>Cb (idN n x) s) s↔x∈s∨∃y∈l,x=idN n y
 |[],s=>by simp
 |y::l,s=>by
  rw[List.foldl_cons,Q08,put1_mem]
  constructor
  ·rintro ((h|h)|⟨z,hz,h⟩)
   ·exact .inr ⟨y,by simp,h⟩
   ·exact .inl h
   ·exact .inr ⟨z,by simp[hz],h⟩
  ·rintro (h|⟨z,hz,h⟩)
   ·exact .inl (.inr h)
   ·rcases List.mem_cons.1 hz with rfl|hz
    ·exact .inl (.inl h)
    ·exact .inr ⟨z,hz,h⟩
theorem allP_mem {n:Nat} {l:List Int} {x:Int}:x∈Cw n l↔¬n=0∧∃y∈l,x=idN n y:=by
 unfold Cw
 split
 ·rename_i h;simp[h]
 ·rename_i h;unfold G9;rw[Q08];simp[h]
theorem Q05 {n:Nat}:∀{l s:List Int},Cq s→Cq (l.foldl (fun s x=>Cb (idN n x) s) s)
 |[],s,h=>h
 |x::l,s,h=>Q05 (l:=l) (So h)
theorem X6p (n:Nat) (l:List Int):Cq (Cw n l):=by
 unfold Cw
 split
 ·trivial
 ·exact Q05 (s:=[]) trivial
theorem X1q {n:Nat} (h:¬n=0) (x:Int):0≤idN n x∧idN n x < n:=by
 unfold idN
 have h0:0≤(if x < 0 then 0-(x+1) else x):=by split<;>omega
 rw[Int.tmod_eq_emod_of_nonneg h0]
 exact⟨Int.emod_nonneg _ (by omega),Int.emod_lt_of_pos _ (by omega)⟩
theorem Q4l {n:Nat} {l:List Int} {x:Int} (h:x∈Cw n l):0≤x∧x < n:=by
 obtain⟨h0,y,_,rfl⟩:=allP_mem.1 h
 exact X1q h0 y
theorem Sp (l : List Int) (n : Int) (hl : l.length ≤ 4611686018427) :
  FnV Tryz.prog 33 [(Ag l),(.int .i64 n)] (Ag (Cb n l)):=by
 refine A5 [.tmp 4] Tryz.func33 rfl Tryz.ntmps33 rfl rfl (fun B F hF=>?_)
 refine Aa [] [0,1] ?_
 refine Aa [] [0,1,5] ?_
 refine Ad ?_
 refine A1 ?_
 refine Bz (fun g y=>∃(i:Nat),i≤l.length∧Cb n l=l.take i++Cb n (l.drop i)∧y=⟨[(0,(Ag l)),(1,(.int .i64 n)),(5,(.int .i64 ((i:Int))))],[],0⟩∧g=l.length-i) [0,1,5] 0 _ (by omega) ⟨0,(by omega),(by rfl),(by kernel_rfl),rfl⟩ ?_
 rintro g1 y1 ⟨i,f1_1,f1_2,rfl,rfl⟩
 refine Ad ?_
 obtain⟨b1,hb1⟩:∃b,b=(decide ((i:Int) < (l.length:Int))):=⟨_,rfl⟩
 refine Af (CS:=[(7,(b1=true→(b1=true∧b1=true)∧(0≤(i:Int)∧i < l.length))),(8,(b1=true→b1=true)),(10,(b1=true→b1=true∧b1=true)),(11,(b1=true→b1=true))]) [11,12,13,14,15,16] [0,1,5,17] [] hk0 (vk 5 10 (a:=.bool (decide ((i:Int) < (l.length:Int)))) (b:=.bool b1) (Imp.of_eq (by rw[hb1]))<|v0) (by refine cc _ ?_<|cc _ ?_<|cc _ ?_<|cc _ ?_ c0<;>(intros;simp_all;done)) ?_
 refine A8 (q:=b1&&(decide ((nth l i) < n))) (by kernel_rfl) (fun c1=>?_) (fun c1=>?_)
 ·subst hb1
  try simp only[Ao] at c1
  refine Ai ?_
  refine A1 ?_
  refine Ap ?_
  refine Av 0 [] [0,1,5] [] hk0 v0 (cc 1 (p:=(-9223372036854775808≤(i:Int)+1∧(i:Int)+1≤9223372036854775807)) (by omega)<|c0) ?_
  refine⟨by kernel_rfl,_,?_,i+1,?_,?_,(by kernel_rfl),rfl⟩
  all_goals first|omega|skip
  rw[f1_2,Q73 (by omega) (by simp_all),Gg (by omega),List.append_assoc];rfl
 ·subst hb1
  try simp only[Ao] at c1
  refine Bt ?_
  refine Ad ?_
  obtain⟨b2,hb2⟩:∃b,b=(decide ((i:Int) < (l.length:Int))):=⟨_,rfl⟩
  refine Af (CS:=[(7,(b2=true→(b2=true∧b2=true)∧(0≤(i:Int)∧i < l.length))),(8,(b2=true→b2=true)),(10,(b2=true→b2=true∧b2=true)),(11,(b2=true→b2=true))]) [25,26,27,28,29,30] [0,1,5,31] [] hk0 (vk 5 24 (a:=.bool (decide ((i:Int) < (l.length:Int)))) (b:=.bool b2) (Imp.of_eq (by rw[hb2]))<|v0) (by refine cc _ ?_<|cc _ ?_<|cc _ ?_<|cc _ ?_ c0<;>(intros;simp_all;done)) ?_
  refine A8 (q:=b2&&(decide ((nth l i)=n))) (by kernel_rfl) (fun c2=>?_) (fun c2=>?_)
  ·subst hb2
   try simp only[Ao] at c2
   refine Aa [] [4] ?_
   refine Ah ?_
   refine RK wR [(Ag l)] ?_
   exact Same.of_eq (by rw[f1_2,Q72 (by omega) (by simp_all) (by simp_all),List.take_append_drop];rfl)
  ·subst hb2
   try simp only[Ao] at c2
   refine Ai ?_
   refine Ad ?_
   refine J4 (by kernel_rfl) (fun F1 hF1=>?_)
   refine De (fuel:=6) [] [1,2,3,5,8,9,10] [36,38,43] (hold (p:=(0≤(0:Int)∧(0:Int)≤(i:Int)∧(i:Int)≤(l.length:Int))∧(0≤(i:Int)∧(i:Int)≤(l.length:Int)∧(l.length:Int)≤(l.length:Int))) (by omega)) ?_
   refine Cp 0 6 (by kernel_rfl) ?_ ?_
   ·refine Bd (fuel:=5) 0 [] A2 ?_
    refine Az [33,36,38,43] ?_
    refine Cp 4 6 (by kernel_rfl) ?_ ?_
    ·refine Bd (fuel:=4) 4 [] (hold (p:=((([]:List AV).length+(i-0))*8≤140737488355328)) (by(simp;omega))) ?_
     refine Az [37,38,43] ?_
     refine Dc (fuel:=3) 6 [] A2 ?_
     refine Dc (fuel:=2) 7 [] (hold (p:=(((([]:List AV)++((List.range (i-0)).map (fun kx=>((.int .i64 (nth l (0+kx))):AV)))).length+1)*8≤140737488355328)) (by(simp;omega))) ?_
     refine Dc (fuel:=1) 11 [] (hold (p:=((((([]:List AV)++((List.range (i-0)).map (fun kx=>((.int .i64 (nth l (0+kx))):AV))))++([(.int .i64 n)]:List AV)).length+(l.length-i))*8≤140737488355328)) (by(simp;omega))) ?_
     refine De (fuel:=0) [] [12] [4] A2 ?_
     refine Az [4] ?_
     refine Hd (by kernel_rfl) ?_
     refine Ah ?_
     refine RK wR [(.row 1 (((([]:List AV)++((List.range (i-0)).map (fun kx=>((.int .i64 (nth l (0+kx))):AV))))++([(.int .i64 n)]:List AV))++((List.range (l.length-i)).map (fun kx=>((.int .i64 (nth l (i+kx))):AV)))).length (fun ix=>(((([]:List AV)++((List.range (i-0)).map (fun kx=>((.int .i64 (nth l (0+kx))):AV))))++([(.int .i64 n)]:List AV))++((List.range (l.length-i)).map (fun kx=>((.int .i64 (nth l (i+kx))):AV)))).getD ix Bp))] ?_
     simp only[An]
     exact Same.grown (f:=AV.int .i64) (l:=Cb n l) (by rw[f1_2,Sq (fun _=>by simp_all),Ph (AV.int .i64) (by omega),Sm (AV.int .i64) (by omega)];simp[E3])
    ·refine Bd (fuel:=4) 6 [] A2 ?_
     refine Az [33,36,39,43] ?_
     refine Dc (fuel:=3) 4 [] (hold (p:=((([]:List AV).length+(i-0))*8≤140737488355328)) (by(simp;omega))) ?_
     refine Dc (fuel:=2) 7 [] (hold (p:=(((([]:List AV)++((List.range (i-0)).map (fun kx=>((.int .i64 (nth l (0+kx))):AV)))).length+1)*8≤140737488355328)) (by(simp;omega))) ?_
     refine Dc (fuel:=1) 11 [] (hold (p:=((((([]:List AV)++((List.range (i-0)).map (fun kx=>((.int .i64 (nth l (0+kx))):AV))))++([(.int .i64 n)]:List AV)).length+(l.length-i))*8≤140737488355328)) (by(simp;omega))) ?_
     refine De (fuel:=0) [] [12] [4] A2 ?_
     refine Az [4] ?_
     refine Hd (by kernel_rfl) ?_
     refine Ah ?_
     refine RK wR [(.row 1 (((([]:List AV)++((List.range (i-0)).map (fun kx=>((.int .i64 (nth l (0+kx))):AV))))++([(.int .i64 n)]:List AV))++((List.range (l.length-i)).map (fun kx=>((.int .i64 (nth l (i+kx))):AV)))).length (fun ix=>(((([]:List AV)++((List.range (i-0)).map (fun kx=>((.int .i64 (nth l (0+kx))):AV))))++([(.int .i64 n)]:List AV))++((List.range (l.length-i)).map (fun kx=>((.int .i64 (nth l (i+kx))):AV)))).getD ix Bp))] ?_
     simp only[An]
     exact Same.grown (f:=AV.int .i64) (l:=Cb n l) (by rw[f1_2,Sq (fun _=>by simp_all),Ph (AV.int .i64) (by omega),Sm (AV.int .i64) (by omega)];simp[E3])
   ·refine Bd (fuel:=5) 6 [] A2 ?_
    refine Az [36,39,43] ?_
    refine Dc (fuel:=4) 0 [] A2 ?_
    refine Dc (fuel:=3) 4 [] (hold (p:=((([]:List AV).length+(i-0))*8≤140737488355328)) (by(simp;omega))) ?_
    refine Dc (fuel:=2) 7 [] (hold (p:=(((([]:List AV)++((List.range (i-0)).map (fun kx=>((.int .i64 (nth l (0+kx))):AV)))).length+1)*8≤140737488355328)) (by(simp;omega))) ?_
    refine Dc (fuel:=1) 11 [] (hold (p:=((((([]:List AV)++((List.range (i-0)).map (fun kx=>((.int .i64 (nth l (0+kx))):AV))))++([(.int .i64 n)]:List AV)).length+(l.length-i))*8≤140737488355328)) (by(simp;omega))) ?_
    refine De (fuel:=0) [] [12] [4] A2 ?_
    refine Az [4] ?_
    refine Hd (by kernel_rfl) ?_
    refine Ah ?_
    refine RK wR [(.row 1 (((([]:List AV)++((List.range (i-0)).map (fun kx=>((.int .i64 (nth l (0+kx))):AV))))++([(.int .i64 n)]:List AV))++((List.range (l.length-i)).map (fun kx=>((.int .i64 (nth l (i+kx))):AV)))).length (fun ix=>(((([]:List AV)++((List.range (i-0)).map (fun kx=>((.int .i64 (nth l (0+kx))):AV))))++([(.int .i64 n)]:List AV))++((List.range (l.length-i)).map (fun kx=>((.int .i64 (nth l (i+kx))):AV)))).getD ix Bp))] ?_
    simp only[An]
    exact Same.grown (f:=AV.int .i64) (l:=Cb n l) (by rw[f1_2,Sq (fun _=>by simp_all),Ph (AV.int .i64) (by omega),Sm (AV.int .i64) (by omega)];simp[E3])
theorem Xl (st : PoolT) (pl : List (Int × Int)) :
  FnV Tryz.prog 61 [(.fp (Kh st pl))] (.int .i64 ((pl.length:Int))):=by
 refine A5 [.tmp 2] Tryz.func61 rfl Tryz.ntmps61 rfl rfl (fun B F hF=>?_)
 refine Aa [] [0] ?_
 refine Aa [] [2] ?_
 refine Ah ?_
 refine RK wR [(.int .i64 ((pl.length:Int)))] ?_
 exact Same.of_eq (by first|rfl|(simp only[An];simp_all))
theorem Xn (st : PoolT) (pl : List (Int × Int)) (raw : List Int) (hpl : pl.length ≤ 200) (hr : raw.length ≤ 4611686018426) (hb : ∀ i, i < raw.length → -9223372036854775808 ≤ nth raw i ∧ nth raw i ≤ 9223372036854775807) :
  FnV Tryz.prog 27 [(.fp (Kh st pl)),(Ag raw)] (Ag (Cw pl.length raw)):=by
 refine A5 [.tmp 4] Tryz.func27 rfl Tryz.ntmps27 rfl rfl (fun B F hF=>?_)
 refine Aa [] [0,1] ?_
 refine Aa [] [0,1,5] ?_
 refine Ad ?_
 refine Ad ?_
 refine Ap ?_
 refine Ft 5 (Ag []) (by kernel_rfl) Imp.nil ?_
 refine Ey [] [0,1,5,6] ?_
 refine A1 ?_
 refine Bz (fun g y=>∃(i:Nat),i≤raw.length∧(pl.length=0→i=0)∧y=⟨[(0,(.fp (Kh st pl))),(1,(Ag raw)),(5,(Ag (G9 pl.length (raw.take i)))),(6,(.int .i64 ((i:Int))))],[],0⟩∧g=raw.length-i) [0,1,5,6] 0 _ (by omega) ⟨0,(by omega),(by exact fun _=>rfl),(by kernel_rfl),rfl⟩ ?_
 rintro g1 y1 ⟨i,f1_1,f1_2,rfl,rfl⟩
 refine Ad ?_
 obtain⟨b1,hb1⟩:∃b,b=(decide ((i:Int) < (raw.length:Int))):=⟨_,rfl⟩
 refine Af (CS:=[(6,b1=true→b1=true),(7,(b1=true→b1=true)),(8,(b1=true→b1=true))]) [13,15] [0,1,5,6,16] [] (hkg 6 b1 Q1s (fun cg=>Xl st pl)<|hk0) (vk 5 12 (a:=.bool (decide ((i:Int) < (raw.length:Int)))) (b:=.bool b1) (Imp.of_eq (by rw[hb1]))<|v0) (by refine cc _ ?_<|cc _ ?_<|cc _ ?_ c0<;>simp) ?_
 refine A8 (q:=b1&&(decide (0 < (pl.length:Int)))) (by kernel_rfl) (fun c1=>?_) (fun c1=>?_)
 ·subst hb1
  try simp only[Ao] at c1
  have hbi:=hb i (by omega)
  refine Ai ?_
  refine Ad ?_
  refine A1 ?_
  refine Af [] [0,1,5,6,7] [] hk0 v0 (cc 2 (p:=(0≤(i:Int)∧i < raw.length)) (by omega)<|c0) ?_
  refine D0 (fun y=>∃(v:Int),v=(if nth raw i < 0 then 0-(nth raw i+1) else nth raw i)∧y=⟨[(0,(.fp (Kh st pl))),(1,(Ag raw)),(5,(Ag (G9 pl.length (raw.take i)))),(6,(.int .i64 ((i:Int)))),(7,(.int .i64 v))],[],0⟩) [0,1,5,6,7] 0 (by omega) ?_ ?_
  ·refine Aa [] [0,1,5,6,7,24] ?_
   refine A6 (p:=(nth raw i) < 0) (by kernel_rfl) (fun c2=>?_) (fun c2=>?_)
   ·refine Ap ?_
    refine Av (CS:=[(1,(-9223372036854775808≤(nth raw i)+1∧(nth raw i)+1≤9223372036854775807)),(2,(-9223372036854775808≤0-((nth raw i)+1)∧0-((nth raw i)+1)≤9223372036854775807))]) 0 [] [0,1,5,6,7] [] hk0 v0 (by refine cc _ ?_<|cc _ ?_ c0<;>omega) ?_
    refine⟨by kernel_rfl,(0-((nth raw i)+1)),?_,(by kernel_rfl)⟩
    rw[if_pos c2]
   ·refine Ai ?_
    refine⟨by kernel_rfl,(nth raw i),?_,(by kernel_rfl)⟩
    rw[if_neg c2]
  ·rintro y1 ⟨v,jy,rfl⟩
   refine Ap ?_
   refine Av 0 [] [0,1,5,6] [] (hk 3 Q1s (Xl st pl)<|hk 5 Ul (Sp (G9 pl.length (raw.take i)) (Int.tmod v (pl.length:Int)) (by have:=Q4m pl.length (raw.take i);rw[List.length_take] at this;omega))<|hk0) v0 (cc 4 (p:=((pl.length:Int)≠0)) (by omega)<|c0) ?_
   refine Ap ?_
   refine Av 0 [] [0,1,5,6] [] hk0 v0 (cc 1 (p:=(-9223372036854775808≤(i:Int)+1∧(i:Int)+1≤9223372036854775807)) (by omega)<|c0) ?_
   refine⟨by kernel_rfl,_,?_,i+1,?_,?_,(Eq.trans (b:=(⟨[(0,(.fp (Kh st pl))),(1,(Ag raw)),(5,(Ag (Cb (Int.tmod v (pl.length:Int)) (G9 pl.length (raw.take i))))),(6,(.int .i64 ((i:Int)+1)))],[],0⟩:St)) (by kernel_rfl) (by rw[show Int.tmod v (pl.length:Int)=idN pl.length (nth raw i) from by rw[jy];rfl,←X6q (by omega)]<;>kernel_rfl)),rfl⟩
   all_goals omega
 ·subst hb1
  try simp only[Ao] at c1
  refine Bt ?_
  refine Aa [] [4] ?_
  refine Ah ?_
  refine RK wR [(Ag (G9 pl.length (raw.take i)))] ?_
  refine Same.of_eq ?_
  simp only[An]
  unfold Cw
  by_cases h0:pl.length=0
  ·rw[if_pos h0,f1_2 h0];rfl
  ·rw[if_neg h0,show i=raw.length from by omega,List.take_length]
end Sv
end
section
open Go Go.RowKit
namespace Sv
def V0 (st:PoolT) (pl:List (Int × Int)):Prop:=pl.length=st.all.length∧∀i,i < st.all.length→0≤(nth pl i).1∧(nth pl i).1 < st.repos.length∧0≤(nth pl i).2∧(nth pl i).2 < (nth st.repos (nth pl i).1.toNat).pkgs.length ∧
  nth (nth st.repos (nth pl i).1.toNat).pkgs (nth pl i).2.toNat=(nth st.all i).1∧(nth pl i).1=(nth st.all i).2
def Q5l (l:List RepoT) (st:PoolT):Prop:=∀q∈st.all,∃r∈l,q.1∈r.pkgs
theorem Pz {α:Type} [Inhabited α] {l m:List α} {i:Nat} (h:i < l.length):nth (l++m) i=nth l i:=by
  simp only[nth];rw[List.getElem?_append_left h]
theorem L0 {α:Type} [Inhabited α] {l m:List α} {i:Nat} (h:l.length≤i):nth (l++m) i=nth m (i-l.length):=by
  simp only[nth];rw[List.getElem?_append_right h]
theorem Q3n {k:Int} {l:List RepoT} {r:RepoT}:Aq k (l++[r])=(Cd (Aq k l).1 r,E4 (Aq k l).2 (Aq k l).1 r):=by
  unfold Aq;rw[List.foldl_append];rfl
theorem Wz {α:Type} {C:List α→Prop} (h0:C []) (h:∀l a,C l→C (l++[a])) (l:List α):C l:=by
  rw[←List.reverse_reverse l]
  induction l.reverse with
  |nil=>exact h0
  |cons a r ih=>rw[List.reverse_cons];exact h _ _ ih
theorem X5v (k:Int):∀l:List RepoT,Q5l l (Aq k l).1:=by
  refine Wz (C:=fun l=>Q5l l (Aq k l).1) (fun q hq=>by cases hq) fun l r ih=>?_
  rw[Q3n]
  intro q hq
  have old:q∈(Aq k l).1.all→∃r'∈l++[r],q.1∈r'.pkgs:=fun h=>by
    obtain⟨r',h1,h2⟩:=ih q h
    exact⟨r',List.mem_append_left _ h1,h2⟩
  unfold Cd at hq
  split at hq
  · simp only[Ax,List.take_length] at hq
    rcases List.mem_append.1 hq with h|h
    · exact old h
    · obtain⟨p,hp,rfl⟩:=List.mem_map.1 h
      exact⟨r,by simp,hp⟩
  · exact old hq
theorem Ve {k:Int} {l:List RepoT} (h:∀i,i < l.length→(nth l i).size≤4194304):IdxOk (Aq k l).1:=by
  refine⟨(Q3o k l).2.1,fun i hi=>?_⟩
  obtain⟨r,hr,hp⟩:=X5v k l (nth (Aq k l).1.all i) (by rw[El hi];exact List.getElem_mem hi)
  obtain⟨a,ha,rfl⟩:=List.getElem_of_mem hr
  obtain⟨b,hb,e⟩:=List.getElem_of_mem hp
  have h1:=RepoT.size_pkg hb
  have h2:=h a ha
  rw[El ha] at h2
  rw[El hb,e] at h1
  omega
theorem X5w (k:Int):∀l:List RepoT,V0 (Aq k l).1 (Aq k l).2:=by
  refine Wz (C:=fun l=>V0 (Aq k l).1 (Aq k l).2) ⟨rfl,fun i hi=>by simp[Aq] at hi⟩ fun l r ih=>?_
  rw[Q3n]
  generalize (Aq k l).1=st at ih
  generalize (Aq k l).2=pl at ih
  show V0 (Cd st r) (E4 pl st r)
  by_cases he:Cj st r=0
  · have e1:Cd st r=⟨st.kind,st.repos++[r],Ax st r r.pkgs.length⟩:=if_pos he
    have e2:E4 pl st r=C8 pl st r r.pkgs.length:=if_pos he
    rw[e1,e2]
    have hl:(Ax st r r.pkgs.length).length=st.all.length+r.pkgs.length:=by simp[Ax]
    have hl2:(C8 pl st r r.pkgs.length).length=pl.length+r.pkgs.length:=by simp[C8]
    refine⟨by show(C8 pl st r r.pkgs.length).length=(Ax st r r.pkgs.length).length;rw[hl,hl2,ih.1],fun i hi=>?_⟩
    have hi:i < (Ax st r r.pkgs.length).length:=hi
    rw[hl] at hi
    show 0≤(nth (C8 pl st r r.pkgs.length) i).1∧(nth (C8 pl st r r.pkgs.length) i).1 < ((st.repos++[r]).length:Int)∧0≤(nth (C8 pl st r r.pkgs.length) i).2∧(nth (C8 pl st r r.pkgs.length) i).2 < ((nth (st.repos++[r]) (nth (C8 pl st r r.pkgs.length) i).1.toNat).pkgs.length:Int)∧nth (nth (st.repos++[r]) (nth (C8 pl st r r.pkgs.length) i).1.toNat).pkgs (nth (C8 pl st r r.pkgs.length) i).2.toNat=(nth (Ax st r r.pkgs.length) i).1∧(nth (C8 pl st r r.pkgs.length) i).1=(nth (Ax st r r.pkgs.length) i).2
    unfold C8 Ax
    by_cases h:i < st.all.length
    · have k:=ih.2 i h
      rw[Pz (l:=pl) (by rw[ih.1];exact h),Pz (l:=st.all) h,Pz (l:=st.repos) (by omega)]
      exact⟨k.1,by rw[List.length_append];omega,k.2.2.1,k.2.2.2.1,k.2.2.2.2.1,k.2.2.2.2.2⟩
    · obtain⟨j,rfl⟩:∃j,i=st.all.length+j:=⟨i-st.all.length,by omega⟩
      have hj:j < r.pkgs.length:=by omega
      rw[L0 (l:=pl) (by rw[ih.1];omega),L0 (l:=st.all) (by omega),show st.all.length+j-pl.length=j by rw[ih.1];omega,show st.all.length+j-st.all.length=j by omega,List.take_length]
      have a1:nth ((List.range r.pkgs.length).map fun (k:Nat)=>((st.repos.length:Int),(k:Int))) j=((st.repos.length:Int),(j:Int)):=by simp[nth,hj]
      have a2:nth (r.pkgs.map fun p=>(p,(st.repos.length:Int))) j=(nth r.pkgs j,(st.repos.length:Int)):=by simp[nth,hj]
      rw[a1,a2]
      have a3:nth (st.repos++[r]) ((st.repos.length:Int)).toNat=r:=by rw[L0 (by simp)];simp[nth]
      refine⟨Int.natCast_nonneg _,by rw[List.length_append,List.length_singleton];show(st.repos.length:Int) < _;omega,Int.natCast_nonneg _,?_,?_,rfl⟩
      · show(j:Int) < ((nth (st.repos++[r]) ((st.repos.length:Int)).toNat).pkgs.length:Int)
        rw[a3];omega
      · show nth (nth (st.repos++[r]) ((st.repos.length:Int)).toNat).pkgs ((j:Int)).toNat=nth r.pkgs j
        rw[a3];rfl
  · have e1:Cd st r=st:=if_neg he
    have e2:E4 pl st r=pl:=if_neg he
    rw[e1,e2];exact ih
end Sv
end
section
open Go Go.RowKit
namespace Sv
attribute [local irreducible] SW SO Bn
set_option maxHeartbeats 400000
set_option maxRecDepth 100000
end Sv
end
section
open Go Go.RowKit
namespace Sv
abbrev Q5g:=Int→Int→List UInt8→Int→List UInt8→Bool × Int
section
variable {m : Q5g} {st : PoolT} {s : List Int}
end
section
variable {m : Q5g} {st : PoolT} {s : List Int}
end
end Sv
end
section
open Go Go.RowKit
namespace Sv
def Bw (s:List UInt8):DepT:=.mk 1 s 0 [] []
end Sv
end
section
open Go Go.RowKit
namespace Sv
def Cz (l:List Int):List Int:=l.mergeSort fun x y=>decide (x≤y)
theorem Q6i:FnV Tryz.prog 130 [.nils] (.tup []):=by
  intro F w vs hF hv
  obtain⟨v,rfl,h1⟩:=hv.single_inv
  simp only[VR] at h1;subst h1
  refine(Go.Proofs.Any.slices_Sort_int_none Tryz.lays189 none 0 w).mono ?_
  rintro e w' ⟨he,rfl⟩
  exact⟨_,he,Below.refl _ _,F,fun _ _ e=>e,hF,fun _ _ e => .inl e,by simp only[VR];exact⟨[],.nil,rfl⟩⟩
theorem X5c:FnV Tryz.prog 123 [.nils] .nils:=by
  intro F w vs hF hv
  obtain⟨v,rfl,h1⟩:=hv.single_inv
  simp only[VR] at h1;subst h1
  refine(Tryz.slices_Compact_int_empty none 0 w).mono ?_
  rintro e w' ⟨he,rfl⟩
  exact⟨_,he,Below.refl _ _,F,fun _ _ e=>e,hF,fun _ _ e => .inl e,by simp only[VR]⟩
def Ce (l:List Int):List Int:=Lib.compact (Cz l)
theorem Ww (l:List Int):(Cz l).length=l.length:=by simp[Cz]
theorem Im (l:List Int):(Ce l).length≤l.length:=by have:=U6 (Cz l);rw[Ww] at this;exact this
def V2 (P:Program) (f:Nat) (es es':List AV) (e sz:Nat):Prop:=∀(B:Bas) (φ:Phi) (h:AH) (w:World) (b:Nat) (v:Value),Rel B φ h w→Bh b h=some (.grow es e sz)→φ.s b=some v →
  Calls P f #[v] w (Ret fun u w'=>u = .tuple #[]∧Rel B φ (Ch b (.grow es' e sz) (Ei b h)) w')
theorem X7j {P : Program} {B : Bas} {F : Cx} {n : Nat} {K : Exit → St → Prop} {x : St} {ops : Array Oper} {rest : List Oper} {f : FuncId} {ar : Array Operand} {ts : Array TypeId} {ty : TypeId} {ps : String} {dst : Option Tmp} {s' : Fr} {af : Array Edge} {g : Option (Nat × Bool)} {b e sz : Nat} {es es' : List AV}
    (hg:Dh ops x.s g=true) (he:Au P f) (ha:Ea (evA x.s) ar.toList=some [.own b]) (hb:Bh b x.h=some (.grow es e sz)) (hf:V2 P f es es' e sz)
    (hp:B6 n dst (.tup []) x.s=some s') (next:SO P n ops rest B F K ⟨s',Ch b (.grow es' e sz) (Ei b x.h),x.nx⟩):SO P n ops (⟨dst,.call { callee:=.value (.func f),args:=ar,argTypes:=ts },ty,ps,af,g⟩::rest) B F K x:=by
  intro φ σ w hx
  have hv:=Fq hx.fr.ev ha
  obtain⟨v,hv0,hv1⟩:=hv.single_inv
  simp only[VR] at hv1
  have hc:=hf B φ x.h w b v hx.rel hb hv1.1
  refine Gc (Df hx.fr hg) he (by rw[hv0];exact hc) ?_
  rintro u w' ⟨rfl,hr⟩
  exact next φ _ w' ⟨hx.fr.put hp (by simp only[VR];exact⟨[],.nil,rfl⟩),hr,hx.dom,hx.old,hx.new,hx.base⟩
theorem Q6j (l:List Int) (hl:l.length≤4611686018427):V2 Tryz.prog 130 (l.map (AV.int .i64)) ((Cz l).map (AV.int .i64)) 3 1:=by
  intro B φ h w b v hr hb hv1
  have hob:=hr.obj b _ hb
  obtain⟨v0,us,q1,q2,q3,q4⟩:=hob
  rw[hv1] at q1;cases q1
  have hu:=Tr q3
  subst hu
  rw[Qf,List.length_map] at q2
  have ht:Turn φ φ b:=⟨fun _=>rfl,fun _ _=>rfl,fun _ _ e=>e⟩
  rcases q2.2 with⟨rfl,hn⟩|⟨g,cap,cur,rfl,hg1,hg2,hg3,hg4,hg5,hg6⟩
  · have hl0:l=[]:=List.length_eq_zero_iff.1 hn
    subst hl0
    refine(Go.Proofs.Any.slices_Sort_int_none Tryz.lays189 none 0 w).mono ?_
    rintro e w' ⟨he,rfl⟩
    exact⟨_,he,rfl,Rel.grown hr hb hv1 ht hv1 rfl ⟨rfl,rfl,rfl,Nat.le_refl _,fun _ _ _=>rfl⟩ (.inl rfl) (fun k hk=>by cases hk) (by have:=hr.obj b _ hb;simpa [Cz] using this)⟩
  · have hh:Go.Sort.Holds (Value.int .i64) w g 0 l.toArray:=holds_of_blockI hg2 (by simpa using hg6)
    refine(Tryz.slices_Sort_int g 0 cap l w hh (Fc hg2) (by omega)).mono ?_
    rintro e w' ⟨he,n,os,rfl⟩
    have hgr:=grownBy_sortedI (w:=w) (g:=g) (n:=n) (os:=os) (Cz l).toArray
    exact⟨_,he,rfl,Rel.grown (es':=(Cz l).map (AV.int .i64)) hr hb hv1 ht hv1 rfl hgr (.inl rfl) (fun k hk=>by cases hk;exact Nat.lt_of_lt_of_le (Fc hg2) hgr.size)
      ⟨_,(Cz l).map (Value.int .i64),hv1,by
        rw[Qf,List.length_map]
        have:=ownsRow_sortedI (n:=n) (os:=os) (base:=0) (ts:=Cz l) (ss:=l) (by simp[Cz]) hg1 hg2 hg3 hg4 (by simpa using hg5)
        rw[show(Cz l).length=l.length by simp[Cz]]
        exact this,Rp _,Q3b _⟩⟩
end Sv
end
section
open Go Go.RowKit
namespace Sv
attribute [local irreducible] SW SO Bn
set_option maxHeartbeats 400000
set_option maxRecDepth 100000
theorem X4d:Au Tryz.prog 129:=Ay Tryz.func129 (by kernel_rfl) rfl
theorem Q2l:Au Tryz.prog 130:=Ay Tryz.func130 (by kernel_rfl) rfl
theorem Qc (l : List Int) (hl : l.length ≤ 4611686018) :
  FnV Tryz.prog 66 [(Ag l)] (Ag (Ce l)):=by
 refine A5 [.tmp 2] Tryz.func66 rfl Tryz.ntmps66 rfl rfl (fun B F hF=>?_)
 refine Aa [] [0] ?_
 refine Ad ?_
 refine Ap ?_
 refine Br 1 0 [] [4] [] hk0 v0 c0 ?_
 refine J7 [.tmp 2] (al:=[(Ag l)]) (s0:=[(4,(Ag l))]) (by kernel_rfl) (by exact X4d) (by kernel_rfl) Tryz.func129 rfl Tryz.ntmps129 rfl (by kernel_rfl) (by kernel_rfl) (fun F1 hF1 hle1=>?_)
 refine Aa [] [0] ?_
 refine Ad ?_
 refine Ad ?_
 refine Ap ?_
 refine Br 1 0 [] [0,3] [] hk0 v0 c0 ?_
 refine Rj (G:=Jl (Ag l)) (sz:=1) (m:=l.length) (e:=3) (by kernel_rfl) (by kernel_rfl) (by kernel_rfl) (by kernel_rfl) (fun nq1_1=>⟨[(0,(Ag l)),(3,(Ag l)),(4,(.bool nq1_1))],by kernel_rfl,fun hnq1_1=>?_⟩)
 refine B5 ?_
 refine A8 (q:=nq1_1) (by kernel_rfl) (fun c1=>?_) (fun c1=>?_)
 ·try simp only[Ao] at c1
  refine Aa [] [2] ?_
  refine Ah ?_
  refine G4 (.inl rfl) (al:=[.nils]) (s':=[(4,(Ag l)),(5,.nils)]) (by kernel_rfl) (by kernel_rfl) ?_
  refine Av 2 [] [3] [] hk0 v0 c0 ?_
  refine Af [] [3] [] (hk 1 Q2l Q6i<|hk0) v0 c0 ?_
  refine Af [] [2] [] (hk 1 Us X5c<|hk0) v0 c0 ?_
  refine Ah ?_
  refine RK wR [.nils] ?_
  simp only[An]
  have h0:l=[]:=List.length_eq_zero_iff.1 (by have:=hnq1_1 (by simp_all);simp_all)
  subst h0
  rw[show Ce []=[] from List.length_eq_zero_iff.1 (Nat.le_zero.1 (Im []))]
  exact(Imp.nil (f:=AV.int .i64)).same
 ·try simp only[Ao] at c1
  refine Ai ?_
  refine Af [] [2] [] hk0 v0 (cc 2 (p:=((([]:List AV).length+l.length)*8≤140737488355328)) (by(simp;omega))<|c0) ?_
  refine Ah ?_
  refine G4 (.inl rfl) (al:=[(.own 1)]) (s':=[(4,(Ag l)),(5,(.own 1))]) (by kernel_rfl) (by kernel_rfl) ?_
  refine Av 2 [] [3] [] hk0 v0 c0 ?_
  refine Ad ?_
  refine Ap ?_
  refine Br 1 0 [] [3,6] [] hk0 v0 c0 ?_
  refine X7j (s':=[(3,(.own 1)),(6,(.own 1)),(7,(.tup []))]) (b:=1) (e:=3) (sz:=1) (es:=([]:List AV)++((List.range l.length).map (fun kx=>((.int .i64 (nth l kx)):AV)))) (es':=((Cz l).map (AV.int .i64))) (by kernel_rfl) (by exact Q2l) (by kernel_rfl) (by kernel_rfl) ((show V2 _ _ (([]:List AV)++((List.range l.length).map (fun kx=>((.int .i64 (nth l kx)):AV)))) _ _ _ from (show l.map (AV.int .i64)=(([]:List AV)++((List.range l.length).map (fun kx=>((.int .i64 (nth l kx)):AV)))) from by simp[Lr])▸Q6j l (by omega))) (by kernel_rfl) ?_
  refine B5 ?_
  refine Ad ?_
  refine Ap ?_
  refine Br 1 0 [] [8] [] hk0 v0 c0 ?_
  refine Mx [1] (al:=[(.own 1)]) (al':=[(.own 0)]) (r:=(.own 0)) (r':=(.own 1)) (s':=[(8,Bp),(9,(.own 1))]) (H:=[(0,(.grow ((Cz l).map (AV.int .i64)) 3 1))]) (H':=[(0,(.grow ((Lib.compact (Cz l)).map (AV.int .i64)) 3 1))]) (h2:=[(1,(.grow ((Lib.compact (Cz l)).map (AV.int .i64)) 3 1))]) (by kernel_rfl) (by exact Us) (by kernel_rfl) (by kernel_rfl) (by kernel_rfl) (by kernel_rfl) (by kernel_rfl) (Q27 (Cz l) (by rw[Ww];omega)) (by kernel_rfl) (by kernel_rfl) (by kernel_rfl) ?_
  refine Av 2 [] [2] [] hk0 v0 c0 ?_
  refine Ah ?_
  refine RK wR [(.row 1 ((Lib.compact (Cz l)).map (AV.int .i64)).length (fun ix=>((Lib.compact (Cz l)).map (AV.int .i64)).getD ix Bp))] ?_
  simp only[An]
  exact Same.grown (f:=AV.int .i64) (l:=Ce l) rfl
end Sv
end
section
open Go Go.RowKit
namespace Sv
theorem Kf:∀{a b:List Int},Cq a→Cq b→(∀x,x∈a↔x∈b)→a=b
  |[],[],_,_,_=>rfl
  |[],y::b,_,_,h=>by have:=(h y).2 (by simp);cases this
  |x::a,[],_,_,h=>by have:=(h x).1 (by simp);cases this
  |x::a,y::b,ha,hb,h=>by
    have e:x=y:=by
      rcases List.mem_cons.1 ((h x).1 (by simp)) with e|e
      · exact e
      · rcases List.mem_cons.1 ((h y).2 (by simp)) with e'|e'
        · exact e'.symm
        · have h1:=hb.1 x e
          have h2:=ha.1 y e'
          omega
    subst e
    rw[Kf ha.2 hb.2 fun z=>?_]
    constructor
    · intro hz
      rcases List.mem_cons.1 ((h z).1 (by simp[hz])) with e|e
      · subst e;have:=ha.1 z hz;omega
      · exact e
    · intro hz
      rcases List.mem_cons.1 ((h z).2 (by simp[hz])) with e|e
      · subst e;have:=hb.1 z hz;omega
      · exact e
theorem Sf {x:Int}:∀{l:List Int},Cq l→(∀y∈l,y < x)→Cq (l++[x])
  |[],_,_=>⟨by simp,trivial⟩
  | z :: l, h, k => ⟨fun y hy => by
      rcases List.mem_append.1 hy with hy|hy
      · exact h.1 y hy
      · rw[List.mem_singleton] at hy;subst hy;exact k z (by simp),Sf h.2 fun y hy=>k y (by simp[hy])⟩
theorem Q26 (d:Array Int) (h:∀i,i+1 < d.size→d[i]! ≤ d[i+1]!):∀m,m≤d.size→Cq (Lib.compactUpTo d m)∧(∀x,x∈Lib.compactUpTo d m↔∃i,i < m∧x=d[i]!)∧∀x∈Lib.compactUpTo d m,x≤d[m-1]! :=by
  intro m
  induction m with
  |zero=>intro _;exact⟨trivial,fun x=>by simp[Lib.compactUpTo],fun x hx=>by simp[Lib.compactUpTo] at hx⟩
  |succ m ih =>
    intro hm
    obtain⟨i1,i2,i3⟩:=ih (by omega)
    have mono:∀x∈Lib.compactUpTo d m,x≤d[m]! := fun x hx=>by
      have h1:=i3 x hx
      by_cases h0:m=0
      · subst h0;simp[Lib.compactUpTo] at hx
      · have:=h (m-1) (by omega)
        rw[show m-1+1=m by omega] at this;omega
    rw[Lib.compactUpTo_succ]
    by_cases hk:Lib.keeps d m=true
    · rw[if_pos hk]
      refine⟨Sf i1 fun y hy=>?_,fun x=>?_,fun x hx=>?_⟩
      · have h1:=mono y hy
        have h2:=i3 y hy
        by_cases h0:m=0
        · subst h0;simp[Lib.compactUpTo] at hy
        · have h3:=h (m-1) (by omega)
          rw[show m-1+1=m by omega] at h3
          have h4:d[m]! ≠ d[m-1]! :=by
            simp only[Lib.keeps,decide_eq_true_eq] at hk
            rcases hk with hk|hk
            · exact absurd hk h0
            · exact hk
          omega
      · rw[List.mem_append,i2,List.mem_singleton]
        constructor
        · rintro (⟨i,hi,rfl⟩|rfl)
          · exact⟨i,by omega,rfl⟩
          · exact⟨m,by omega,rfl⟩
        · rintro⟨i,hi,rfl⟩
          by_cases e:i=m
          · subst e;exact .inr rfl
          · exact .inl ⟨i,by omega,rfl⟩
      · rw[Nat.add_sub_cancel]
        rcases List.mem_append.1 hx with hx|hx
        · exact mono x hx
        · rw[List.mem_singleton] at hx;subst hx;exact Int.le_refl _
    · rw[if_neg hk,List.append_nil]
      have hk':¬m=0∧d[m]! = d[m-1]! :=by
        simp only[Lib.keeps,decide_eq_true_eq,not_or,ne_eq,Decidable.not_not] at hk
        exact hk
      refine⟨i1,fun x=>?_,fun x hx=>?_⟩
      · rw[i2]
        constructor
        · rintro⟨i,hi,rfl⟩
          exact⟨i,by omega,rfl⟩
        · rintro⟨i,hi,rfl⟩
          by_cases e:i=m
          · subst e;exact⟨i-1,by omega,hk'.2⟩
          · exact⟨i,by omega,rfl⟩
      · rw[Nat.add_sub_cancel];exact mono x hx
theorem Wv (l:List Int) (i:Nat) (h:i+1 < (Cz l).toArray.size):(Cz l).toArray[i]! ≤ (Cz l).toArray[i+1]! :=by
  have p:(Cz l).Pairwise fun x y=>decide (x≤y)=true:=List.pairwise_mergeSort (fun a b c h1 h2=>by simp only[decide_eq_true_eq] at *;omega) (fun a b=>by simp only[Bool.or_eq_true,decide_eq_true_eq];omega) l
  have h':i+1 < (Cz l).length:=by simpa using h
  have:=List.pairwise_iff_getElem.1 p i (i+1) (by omega) h' (by omega)
  simpa [getElem!_pos,h',show i < (Cz l).length by omega] using this
theorem Il (l:List Int):Cq (Ce l):=(Q26 (Cz l).toArray (Wv l) (Cz l).length (by simp)).1
theorem Nd {l:List Int} {x:Int}:x∈Ce l↔x∈l:=by
  have h:=(Q26 (Cz l).toArray (Wv l) (Cz l).length (by simp)).2.1 x
  have e:x∈Ce l↔x∈Lib.compactUpTo (Cz l).toArray (Cz l).length:=Iff.rfl
  rw[e,h]
  have m:x∈Cz l↔x∈l:=by unfold Cz;exact List.mem_mergeSort
  rw[←m]
  constructor
  · rintro⟨i,hi,rfl⟩
    simp[getElem!_pos,hi]
  · intro hx
    obtain⟨i,hi,rfl⟩:=List.getElem_of_mem hx
    exact⟨i,hi,by simp[getElem!_pos,hi]⟩
theorem Lo {l k:List Int} (hk:Cq k) (h:∀x,x∈k↔x∈l):k=Ce l:=Kf hk (Il l) fun x=>by rw[h,Nd]
theorem Nc {l:List Int} (h:Cq l):Ce l=l:=(Lo h fun _=>Iff.rfl).symm
theorem Q71 {n:Int} {l:List Int}:Cb n (Ce l)=Ce (l++[n]):=Lo (So (Il l)) fun x=>by rw[put1_mem,Nd,List.mem_append,List.mem_singleton,or_comm]
theorem O9:Ce []=[]:=Nc trivial
def B4 (x y:List Int):Bool:=decide (y=[])||(!decide (x=[])&&decide (nth x 0≤nth y 0))
def Ee (p:Bool→Bool→Bool):Nat→List Int→List Int→List Int
  |0,_,_=>[]
  |n+1,x,y=>if x=[]∧y=[] then [] else
    (if p (B4 x y) (B4 y x) then [if B4 y x=true then nth y 0 else nth x 0] else [])++Ee p n (if B4 x y=true then x.drop 1 else x) (if B4 y x=true then y.drop 1 else y)
theorem X0o {q:Bool} {h:Int} {r:List Int} (hr:Cq r) (hl:∀z∈r,h < z):Cq ((if q=true then [h] else [])++r):=by
  cases q
  · exact hr
  · exact⟨hl,hr⟩
theorem X0q {p : Bool → Bool → Bool} {u v : Bool} {h : Int} {x y x1 y1 r : List Int} (hx : ∀ z, z ∈ x ↔ (u = true ∧ z = h) ∨ z ∈ x1) (hy : ∀ z, z ∈ y ↔ (v = true ∧ z = h) ∨ z ∈ y1) (h1 : ∀ z ∈ x1, h < z) (h2 : ∀ z ∈ y1, h < z) (huv : u = true ∨ v = true)
    (hr:∀z,z∈r↔(z∈x1∨z∈y1)∧p (decide (z∈x1)) (decide (z∈y1))=true) (z:Int):z∈(if p u v=true then [h] else [])++r↔(z∈x∨z∈y)∧p (decide (z∈x)) (decide (z∈y))=true:=by
  rw[List.mem_append,hr]
  by_cases e:z=h
  · subst e
    have n1:¬z∈x1:=fun q=>by have:=h1 z q;omega
    have n2:¬z∈y1:=fun q=>by have:=h2 z q;omega
    have e1:decide (z∈x)=u:=by have:=hx z;cases u<;>simp_all
    have e2:decide (z∈y)=v:=by have:=hy z;cases v<;>simp_all
    rw[e1,e2]
    have hm:z∈x∨z∈y:=by
      rcases huv with q|q
      · exact .inl ((hx z).2 (.inl ⟨q,rfl⟩))
      · exact .inr ((hy z).2 (.inl ⟨q,rfl⟩))
    by_cases q:p u v=true
    · simp[q,hm]
    · simp[q,n1,n2]
  · have e1:z∈x↔z∈x1:=by rw[hx];simp[e]
    have e2:z∈y↔z∈y1:=by rw[hy];simp[e]
    have n:¬z∈(if p u v=true then [h] else []):=by split<;>simp[e]
    simp only[e1,e2,n,false_or]
theorem Zw {p:Bool→Bool→Bool}:∀(n:Nat) (x y:List Int),x.length+y.length < n→Cq x→Cq y→Cq (Ee p n x y)∧∀z,z∈Ee p n x y↔(z∈x∨z∈y)∧p (decide (z∈x)) (decide (z∈y))=true:=by
  intro n
  induction n with
  |zero=>intro x y h;omega
  |succ n ih =>
    intro x y h hx hy
    have go : ∀ (u v : Bool) (a : Int) (x1 y1 : List Int), x1.length + y1.length < n → Cq x1 → Cq y1 → (∀ z, z ∈ x ↔ (u = true ∧ z = a) ∨ z ∈ x1) → (∀ z, z ∈ y ↔ (v = true ∧ z = a) ∨ z ∈ y1) → (∀ z ∈ x1, a < z) → (∀ z ∈ y1, a < z) → (u = true ∨ v = true) →
        Ee p (n+1) x y=(if p u v=true then [a] else [])++Ee p n x1 y1→Cq (Ee p (n+1) x y)∧∀z,z∈Ee p (n+1) x y↔(z∈x∨z∈y)∧p (decide (z∈x)) (decide (z∈y))=true:=by
      intro u v a x1 y1 hl r1 r2 q1 q2 q3 q4 q5 e
      obtain⟨i1,i2⟩:=ih x1 y1 hl r1 r2
      rw[e]
      refine⟨X0o i1 fun z hz=>?_,X0q q1 q2 q3 q4 q5 i2⟩
      rcases ((i2 z).1 hz).1 with k|k
      · exact q3 z k
      · exact q4 z k
    cases x with
    |nil =>
      cases y with
      |nil=>exact⟨trivial,fun z=>by simp[Ee]⟩
      |cons b y=>exact go false true b [] y (by simp at h ⊢;omega) trivial hy.2 (by simp) (by simp) (by simp) hy.1 (.inr rfl) (by simp[Ee,B4,nth])
    |cons a x =>
      cases y with
      |nil=>exact go true false a x [] (by simp at h ⊢;omega) hx.2 trivial (by simp) (by simp) hx.1 (by simp) (.inl rfl) (by simp[Ee,B4,nth])
      |cons b y =>
        simp only[List.length_cons] at h
        rcases Int.lt_trichotomy a b with q|q|q
        · exact go true false a x (b :: y) (by simp; omega) hx.2 hy (by simp) (by simp) hx.1 (fun z hz => by
            rcases List.mem_cons.1 hz with rfl|hz
            · exact q
            · have:=hy.1 z hz;omega) (.inl rfl) (by simp[Ee,B4,nth,show a≤b by omega,show ¬b≤a by omega])
        · subst q
          exact go true true a x y (by omega) hx.2 hy.2 (by simp) (by simp) hx.1 hy.1 (.inl rfl) (by simp[Ee,B4,nth])
        · exact go false true b (a :: x) y (by simp; omega) hx hy.2 (by simp) (by simp) (fun z hz => by
            rcases List.mem_cons.1 hz with rfl|hz
            · exact q
            · have:=hx.1 z hz;omega) hy.1 (.inr rfl) (by simp[Ee,B4,nth,show ¬a≤b by omega,show b≤a by omega])
def Kp (p:Bool→Bool→Bool) (a b:List Int):List Int:=Ee p ((Ce a).length+(Ce b).length+1) (Ce a) (Ce b)
theorem Zy {p:Bool→Bool→Bool} {a b:List Int} {z:Int}:z∈Kp p a b↔(z∈a∨z∈b)∧p (decide (z∈a)) (decide (z∈b))=true:=by
  have:=(Zw (p:=p) _ (Ce a) (Ce b) (Nat.lt_succ_self _) (Il a) (Il b)).2 z
  simp only[Nd] at this
  exact this
theorem Zx {p:Bool→Bool→Bool} {a b:List Int}:Cq (Kp p a b):=(Zw _ (Ce a) (Ce b) (Nat.lt_succ_self _) (Il a) (Il b)).1
def Ae (a b:List Int):List Int:=Ce (a.filter fun z => !decide (z∈b))
def Aw (a b:List Int):List Int:=Ce (a++b)
theorem Q99 (a b:List Int):Kp (fun _ v => !v) a b=Ae a b:=Lo Zx fun z=>by rw[Zy,List.mem_filter];simp only[Bool.not_eq_true',decide_eq_false_iff_not];exact⟨fun h=>⟨h.1.resolve_right h.2,h.2⟩,fun h=>⟨.inl h.1,h.2⟩⟩
theorem Q5w (a b:List Int):Kp (fun _ _=>true) a b=Aw a b:=Lo Zx fun z=>by rw[Zy,List.mem_append];simp
theorem minusZ_mem {a b:List Int} {z:Int}:z∈Ae a b↔z∈a∧¬z∈b:=by unfold Ae;rw[Nd,List.mem_filter];simp
theorem unionZ_mem {a b:List Int} {z:Int}:z∈Aw a b↔z∈a∨z∈b:=by unfold Aw;rw[Nd,List.mem_append]
theorem Fm (a b:List Int):Cq (Ae a b):=Il _
theorem M2 (a b:List Int):Cq (Aw a b):=Il _
end Sv
end
section
open Go Go.RowKit
namespace Sv
attribute [local irreducible] SW SO Bn
set_option maxHeartbeats 400000
set_option maxRecDepth 100000
end Sv
end
section
open Go Go.RowKit
namespace Sv
attribute [local irreducible] SW SO Bn
set_option maxHeartbeats 1000000
set_option maxRecDepth 100000
theorem Q2k:Au Tryz.prog 131:=Ay Tryz.func131 (by kernel_rfl) rfl
theorem Qo:Au Tryz.prog 66:=Ay Tryz.func66 (by kernel_rfl) rfl
theorem N7:Au Tryz.prog 73:=Ay Tryz.func73 (by kernel_rfl) rfl
theorem Uh:Au Tryz.prog 69:=Ay Tryz.func69 (by kernel_rfl) rfl
theorem X4b:Au Tryz.prog 134:=Ay Tryz.func134 (by kernel_rfl) rfl
theorem X4c:Au Tryz.prog 132:=Ay Tryz.func132 (by kernel_rfl) rfl
theorem Q1e (x y:List Int):(decide ((y.length:Int)=0)||(decide (0 < (x.length:Int))&&decide (nth x 0≤nth y 0)))=B4 x y:=by
 unfold B4
 cases x<;>cases y<;>simp
 all_goals omega
theorem Tz {x y:List Int} (h:¬(x=[]∧y=[])) (k:B4 x y=true):1≤x.length:=by
 cases x<;>cases y<;>simp_all [B4]
theorem X2f {x y:List Int} (h:¬(x=[]∧y=[])) (k:B4 x y=false):B4 y x=true:=by
 cases x<;>cases y<;>simp_all [B4];omega
theorem L4 {p : Bool → Bool → Bool} {g : Nat} {x y : List Int} {u v : Bool} (hg : 1 ≤ g) (h : ¬(x = [] ∧ y = [])) (hu : B4 x y = u) (hv : B4 y x = v) :
  Ee p g x y=(if p u v=true then [if v=true then nth y 0 else nth x 0] else [])++Ee p (g-1) (if u=true then x.drop 1 else x) (if v=true then y.drop 1 else y):=by
 obtain⟨n,rfl⟩:∃n,g=n+1:=⟨g-1,by omega⟩
 rw[Ee,if_neg h,hu,hv];rfl
theorem X0p (p:Bool→Bool→Bool) (g:Nat):Ee p g [] []=[]:=by cases g<;>rfl
theorem Uu {x:List Int} {n:Nat} (h:1≤x.length∧n=x.length-1):Imp (.row 1 n (fun kx => .int .i64 (nth x (1+kx)))) (Ag (x.drop 1)):=by
 obtain⟨h1,rfl⟩:=h
 have e:x.length-1=(x.drop 1).length:=by simp
 rw[e]
 exact Imp.row fun i hi=>Imp.of_eq (by simp[nth,List.getElem?_drop,Nat.add_comm])
theorem X0a (a b : Bool) :
  FnV Tryz.prog 134 [(.bool a),(.bool b)] (.bool (!b)):=by
 refine A5 [.tmp 4] Tryz.func134 rfl Tryz.ntmps134 rfl rfl (fun B F hF=>?_)
 refine Aa [] [1] ?_
 refine Aa [] [4] ?_
 refine Ah ?_
 refine RK wR [(.bool (!b))] ?_
 exact Same.of_eq (by first|rfl|(simp only[An];simp_all))
theorem Q5x (a b : Bool) :
  FnV Tryz.prog 132 [(.bool a),(.bool b)] (.bool true):=by
 refine A5 [.tmp 4] Tryz.func132 rfl Tryz.ntmps132 rfl rfl (fun B F hF=>?_)
 refine Aa [] [] ?_
 refine Aa [] [4] ?_
 refine Ah ?_
 refine RK wR [(.bool true)] ?_
 exact Same.of_eq (by first|rfl|(simp only[An];simp_all))
theorem Zv (a b : List Int) (q : AV) (p : Bool → Bool → Bool) (ha : a.length ≤ 4194304) (hb : b.length ≤ 4194304) (hq : ∀ u v, FunV Tryz.prog q [.bool u, .bool v] (.bool (p u v))) :
  FnV Tryz.prog 131 [(Ag a),(Ag b),(.clo q)] (Ag (Kp p a b)):=by
 have h1:=Im a
 have h2:=Im b
 refine A5 [.tmp 6] Tryz.func131 rfl Tryz.ntmps131 rfl rfl (fun B F hF=>?_)
 refine Aa [] [0,1,2] ?_
 refine Af [] [0,1,2] [] (hk 1 Qo (Qc a (by omega))<|hk 3 Qo (Qc b (by omega))<|hk0) v0 c0 ?_
 refine Aa [] [0,1,2,7] ?_
 refine Ad ?_
 refine A1 ?_
 refine Mu 3 1 7 (y:=⟨[(0,(Ag (Ce a))),(1,(Ag (Ce b))),(2,(.clo q)),(7,(.own 0))],[(0,(.grow [] 3 1))],1⟩) (by kernel_rfl) (by kernel_rfl) ?_
 refine Bz (fun g y=>∃(fu:Nat) (x k zs:List Int),x.length≤(Ce a).length∧k.length≤(Ce b).length∧x.length+k.length < fu∧zs.length+(x.length+k.length)≤(Ce a).length+(Ce b).length∧Ee p ((Ce a).length+(Ce b).length+1) (Ce a) (Ce b)=zs++Ee p fu x k∧y=⟨[(0,(Ag x)),(1,(Ag k)),(2,(.clo q)),(7,(.own 0))],[(0,(.grow (zs.map (AV.int .i64)) 3 1))],1⟩∧g=fu) [0,1,2,7] 1 _ (by omega) ⟨(Ce a).length+(Ce b).length+1,(Ce a),(Ce b),[],(by omega),(by omega),(by omega),(by simp),(by rfl),(by kernel_rfl),rfl⟩ ?_
 rintro g1 y1 ⟨fu,x,k,zs,f1_1,f1_2,f1_3,f1_4,f1_5,rfl,rfl⟩
 refine Ad ?_
 obtain⟨b1,hb1⟩:∃b,b=(decide (0 < (x.length:Int))):=⟨_,rfl⟩
 refine Af (CS:=[(5,((!b1)=true→(!b1)=true)),(6,((!b1)=true→(!b1)=true)),(7,(b1=false→(!b1)=true))]) [19,20,21] [0,1,2,7,22] [] hk0 (vk 4 18 (a:=.bool (decide (0 < (x.length:Int)))) (b:=.bool b1) (Imp.of_eq (by rw[hb1]))<|v0) (by refine cc _ ?_<|cc _ ?_<|cc _ ?_ c0<;>simp) ?_
 refine A8 (q:=b1||(decide (0 < (k.length:Int)))) (by kernel_rfl) (fun c1=>?_) (fun c1=>?_)
 ·subst hb1
  try simp only[Ao] at c1
  have hne:¬(x=[]∧k=[]):=by rintro⟨rfl,rfl⟩;simp at c1
  refine Ai ?_
  refine A1 ?_
  have qh1:((((!(decide ((k.length:Int)=0)))&&(decide (0 < (x.length:Int))))=true→(((!(decide ((k.length:Int)=0)))&&(decide (0 < (x.length:Int))))=true)∧(0≤(0:Int)∧0 < k.length))):=by
   intro hq;simp only[Bool.and_eq_true,Bool.not_eq_true',decide_eq_false_iff_not,decide_eq_true_eq] at hq ⊢;omega
  refine C2 [27,28,29,30,31,32,33,34,35,36,37,38] [0,1,2,7,8] [] hk0 (vk 17 39 (a:=(.bool ((decide ((k.length:Int)=0))||((decide (0 < (x.length:Int)))&&(decide ((nth x 0)≤(nth k 0))))))) (b:=(.bool (B4 x k))) (Imp.of_eq (congrArg AV.bool (Q1e x k)))<|v0) (cc 5 (p:=((!(decide ((k.length:Int)=0)))=true→(!(decide ((k.length:Int)=0)))=true)) (by simp)<|cc 6 (p:=((!(decide ((k.length:Int)=0)))=true→(!(decide ((k.length:Int)=0)))=true)) (by simp)<|cc 7 (p:=((!(decide ((k.length:Int)=0)))=true→(!(decide ((k.length:Int)=0)))=true)) (by simp)<|cc 9 (p:=(((!(decide ((k.length:Int)=0)))&&(decide (0 < (x.length:Int))))=true→(((!(decide ((k.length:Int)=0)))&&(decide (0 < (x.length:Int))))=true)∧(0≤(0:Int)∧0 < x.length))) (by simp)<|cc 10 (p:=(((!(decide ((k.length:Int)=0)))&&(decide (0 < (x.length:Int))))=true→((!(decide ((k.length:Int)=0)))&&(decide (0 < (x.length:Int))))=true)) (by simp)<|cc 12 (p:=(((!(decide ((k.length:Int)=0)))&&(decide (0 < (x.length:Int))))=true→(((!(decide ((k.length:Int)=0)))&&(decide (0 < (x.length:Int))))=true)∧(0≤(0:Int)∧0 < k.length))) qh1<|cc 13 (p:=(((!(decide ((k.length:Int)=0)))&&(decide (0 < (x.length:Int))))=true→((!(decide ((k.length:Int)=0)))&&(decide (0 < (x.length:Int))))=true)) (by simp)<|cc 14 (p:=(((!(decide ((k.length:Int)=0)))&&(decide (0 < (x.length:Int))))=true→((!(decide ((k.length:Int)=0)))&&(decide (0 < (x.length:Int))))=true∧((!(decide ((k.length:Int)=0)))&&(decide (0 < (x.length:Int))))=true)) (by simp)<|cc 15 (p:=((!(decide ((k.length:Int)=0)))=true→((!(decide ((k.length:Int)=0)))=true)∧((decide (0 < (x.length:Int)))=true→((!(decide ((k.length:Int)=0)))&&(decide (0 < (x.length:Int))))=true))) (by(intros;simp_all;done))<|cc 16 (p:=((decide ((k.length:Int)=0))=false→(!(decide ((k.length:Int)=0)))=true)) (by simp)<|c0) ?_
  have qh2:((((!(decide ((x.length:Int)=0)))&&(decide (0 < (k.length:Int))))=true→(((!(decide ((x.length:Int)=0)))&&(decide (0 < (k.length:Int))))=true)∧(0≤(0:Int)∧0 < x.length))):=by
   intro hq;simp only[Bool.and_eq_true,Bool.not_eq_true',decide_eq_false_iff_not,decide_eq_true_eq] at hq ⊢;omega
  refine C2 [44,45,46,47,48,49,50,51,52,53,54,55] [0,1,2,7,8,9] [] hk0 (vk 17 56 (a:=(.bool ((decide ((x.length:Int)=0))||((decide (0 < (k.length:Int)))&&(decide ((nth k 0)≤(nth x 0))))))) (b:=(.bool (B4 k x))) (Imp.of_eq (congrArg AV.bool (Q1e k x)))<|v0) (cc 5 (p:=((!(decide ((x.length:Int)=0)))=true→(!(decide ((x.length:Int)=0)))=true)) (by simp)<|cc 6 (p:=((!(decide ((x.length:Int)=0)))=true→(!(decide ((x.length:Int)=0)))=true)) (by simp)<|cc 7 (p:=((!(decide ((x.length:Int)=0)))=true→(!(decide ((x.length:Int)=0)))=true)) (by simp)<|cc 9 (p:=(((!(decide ((x.length:Int)=0)))&&(decide (0 < (k.length:Int))))=true→(((!(decide ((x.length:Int)=0)))&&(decide (0 < (k.length:Int))))=true)∧(0≤(0:Int)∧0 < k.length))) (by simp)<|cc 10 (p:=(((!(decide ((x.length:Int)=0)))&&(decide (0 < (k.length:Int))))=true→((!(decide ((x.length:Int)=0)))&&(decide (0 < (k.length:Int))))=true)) (by simp)<|cc 12 (p:=(((!(decide ((x.length:Int)=0)))&&(decide (0 < (k.length:Int))))=true→(((!(decide ((x.length:Int)=0)))&&(decide (0 < (k.length:Int))))=true)∧(0≤(0:Int)∧0 < x.length))) qh2<|cc 13 (p:=(((!(decide ((x.length:Int)=0)))&&(decide (0 < (k.length:Int))))=true→((!(decide ((x.length:Int)=0)))&&(decide (0 < (k.length:Int))))=true)) (by simp)<|cc 14 (p:=(((!(decide ((x.length:Int)=0)))&&(decide (0 < (k.length:Int))))=true→((!(decide ((x.length:Int)=0)))&&(decide (0 < (k.length:Int))))=true∧((!(decide ((x.length:Int)=0)))&&(decide (0 < (k.length:Int))))=true)) (by simp)<|cc 15 (p:=((!(decide ((x.length:Int)=0)))=true→((!(decide ((x.length:Int)=0)))=true)∧((decide (0 < (k.length:Int)))=true→((!(decide ((x.length:Int)=0)))&&(decide (0 < (k.length:Int))))=true))) (by(intros;simp_all;done))<|cc 16 (p:=((decide ((x.length:Int)=0))=false→(!(decide ((x.length:Int)=0)))=true)) (by simp)<|c0) ?_
  refine Aa [] [0,1,2,7,8,9,10] ?_
  refine Ad ?_
  refine Aa [] [0,1,2,7,8,9,10,57] ?_
  refine A8 (q:=B4 x k) (by kernel_rfl) (fun c2=>?_) (fun c2=>?_)
  ·try simp only[Ao] at c2
   have h1x:=Tz hne c2
   refine Hc (CS:=[(1,(0≤(0:Int)∧0 < x.length)),(4,(0≤(1:Int)∧(1:Int)≤(x.length:Int)∧(x.length:Int)≤(x.length:Int)))]) [] [0,1,2,7,8,9,10] [] hk0 (vk 6 62 (a:=(.row 1 (x.length-1) (fun kx=>(.int .i64 (nth x (1+kx)))))) (b:=(Ag (x.drop 1))) (Uu (by omega))<|v0) (by refine cc _ ?_<|cc _ ?_ c0<;>omega) ?_
   refine Ad ?_
   refine Aa [] [0,1,2,7,8,9,10,63] ?_
   refine A8 (q:=B4 k x) (by kernel_rfl) (fun c3=>?_) (fun c3=>?_)
   ·try simp only[Ao] at c3
    have h1y:=Tz (fun q=>hne ⟨q.2,q.1⟩) c3
    refine Hc (CS:=[(1,(0≤(0:Int)∧0 < k.length)),(4,(0≤(1:Int)∧(1:Int)≤(k.length:Int)∧(k.length:Int)≤(k.length:Int)))]) [] [0,1,2,7,8,9,10] [] hk0 (vk 6 68 (a:=(.row 1 (k.length-1) (fun kx=>(.int .i64 (nth k (1+kx)))))) (b:=(Ag (k.drop 1))) (Uu (by omega))<|v0) (by refine cc _ ?_<|cc _ ?_ c0<;>omega) ?_
    refine Ad ?_
    refine Ap ?_
    refine Br 3 0 [] [0,1,2,7,10,69,70,71] [] hk0 v0 c0 ?_
    refine Fu (s':=[(0,(Ag (x.drop 1))),(1,(Ag (k.drop 1))),(2,(.clo q)),(7,(.own 0)),(10,(.int .i64 (nth k 0))),(69,(.clo q)),(70,(.bool (B4 x k))),(71,(.bool (B4 k x))),(72,(.bool (p ((B4 x k)) ((B4 k x)))))]) (a:=(.clo q)) (al:=[(.bool (B4 x k)),(.bool (B4 k x))]) (r:=(.bool (p ((B4 x k)) ((B4 k x))))) (by kernel_rfl) (by kernel_rfl) (by kernel_rfl) (by kernel_rfl) (by kernel_rfl) ((hq _ _).clo) (by kernel_rfl) ?_
    refine B5 ?_
    refine A8 (q:=p ((B4 x k)) ((B4 k x))) (by kernel_rfl) (fun c4=>?_) (fun c4=>?_)
    ·try simp only[Ao] at c4
     refine Ap ?_
     refine Av 0 [] [0,1,2,7] [] hk0 v0 (cc 3 (p:=(((zs.map (AV.int .i64)).length+1)*8≤140737488355328)) (by(simp;omega))<|c0) ?_
     refine⟨by kernel_rfl,_,?_,g1-1,(x.drop 1),(k.drop 1),zs++[nth k 0],?_,?_,?_,?_,?_,(Eq.trans (b:=(⟨[(0,(Ag (x.drop 1))),(1,(Ag (k.drop 1))),(2,(.clo q)),(7,(.own 0))],[(0,(.grow ((zs.map (AV.int .i64))++([(.int .i64 (nth k 0))]:List AV)) 3 1))],1⟩:St)) (by kernel_rfl) (by rw[List.map_append]<;>kernel_rfl)),rfl⟩
     ·omega
     ·(try rw[List.length_drop]);omega
     ·(try rw[List.length_drop]);omega
     ·(repeat rw[List.length_drop]);omega
     ·(try rw[List.length_append,List.length_singleton]);(repeat rw[List.length_drop]);omega
     ·rw[c2,c3] at c4
      rw[f1_5,L4 (by omega) hne c2 c3]
      simp[c4]
    ·try simp only[Ao] at c4
     refine Ai ?_
     refine⟨by kernel_rfl,_,?_,g1-1,(x.drop 1),(k.drop 1),zs,?_,?_,?_,?_,?_,(by kernel_rfl),rfl⟩
     ·omega
     ·(try rw[List.length_drop]);omega
     ·(try rw[List.length_drop]);omega
     ·(repeat rw[List.length_drop]);omega
     ·(try rw[List.length_append,List.length_singleton]);(repeat rw[List.length_drop]);omega
     ·rw[c2,c3] at c4
      rw[f1_5,L4 (by omega) hne c2 c3]
      simp[c4]
   ·try simp only[Ao] at c3
    refine Ai ?_
    refine Ad ?_
    refine Ap ?_
    refine Br 3 0 [] [0,1,2,7,10,69,70,71] [] hk0 v0 c0 ?_
    refine Fu (s':=[(0,(Ag (x.drop 1))),(1,(Ag k)),(2,(.clo q)),(7,(.own 0)),(10,(.int .i64 (nth x 0))),(69,(.clo q)),(70,(.bool (B4 x k))),(71,(.bool (B4 k x))),(72,(.bool (p ((B4 x k)) ((B4 k x)))))]) (a:=(.clo q)) (al:=[(.bool (B4 x k)),(.bool (B4 k x))]) (r:=(.bool (p ((B4 x k)) ((B4 k x))))) (by kernel_rfl) (by kernel_rfl) (by kernel_rfl) (by kernel_rfl) (by kernel_rfl) ((hq _ _).clo) (by kernel_rfl) ?_
    refine B5 ?_
    refine A8 (q:=p ((B4 x k)) ((B4 k x))) (by kernel_rfl) (fun c5=>?_) (fun c5=>?_)
    ·try simp only[Ao] at c5
     refine Ap ?_
     refine Av 0 [] [0,1,2,7] [] hk0 v0 (cc 3 (p:=(((zs.map (AV.int .i64)).length+1)*8≤140737488355328)) (by(simp;omega))<|c0) ?_
     refine⟨by kernel_rfl,_,?_,g1-1,(x.drop 1),k,zs++[nth x 0],?_,?_,?_,?_,?_,(Eq.trans (b:=(⟨[(0,(Ag (x.drop 1))),(1,(Ag k)),(2,(.clo q)),(7,(.own 0))],[(0,(.grow ((zs.map (AV.int .i64))++([(.int .i64 (nth x 0))]:List AV)) 3 1))],1⟩:St)) (by kernel_rfl) (by rw[List.map_append]<;>kernel_rfl)),rfl⟩
     ·omega
     ·(try rw[List.length_drop]);omega
     ·(try rw[List.length_drop]);omega
     ·(repeat rw[List.length_drop]);omega
     ·(try rw[List.length_append,List.length_singleton]);(repeat rw[List.length_drop]);omega
     ·rw[c2,c3] at c5
      rw[f1_5,L4 (by omega) hne c2 c3]
      simp[c5]
    ·try simp only[Ao] at c5
     refine Ai ?_
     refine⟨by kernel_rfl,_,?_,g1-1,(x.drop 1),k,zs,?_,?_,?_,?_,?_,(by kernel_rfl),rfl⟩
     ·omega
     ·(try rw[List.length_drop]);omega
     ·(try rw[List.length_drop]);omega
     ·(repeat rw[List.length_drop]);omega
     ·(try rw[List.length_append,List.length_singleton]);(repeat rw[List.length_drop]);omega
     ·rw[c2,c3] at c5
      rw[f1_5,L4 (by omega) hne c2 c3]
      simp[c5]
  ·try simp only[Ao] at c2
   refine Ai ?_
   refine Ad ?_
   refine Aa [] [0,1,2,7,8,9,10,63] ?_
   refine A8 (q:=B4 k x) (by kernel_rfl) (fun c6=>?_) (fun c6=>?_)
   ·try simp only[Ao] at c6
    have h1y:=Tz (fun q=>hne ⟨q.2,q.1⟩) c6
    refine Hc (CS:=[(1,(0≤(0:Int)∧0 < k.length)),(4,(0≤(1:Int)∧(1:Int)≤(k.length:Int)∧(k.length:Int)≤(k.length:Int)))]) [] [0,1,2,7,8,9,10] [] hk0 (vk 6 68 (a:=(.row 1 (k.length-1) (fun kx=>(.int .i64 (nth k (1+kx)))))) (b:=(Ag (k.drop 1))) (Uu (by omega))<|v0) (by refine cc _ ?_<|cc _ ?_ c0<;>omega) ?_
    refine Ad ?_
    refine Ap ?_
    refine Br 3 0 [] [0,1,2,7,10,69,70,71] [] hk0 v0 c0 ?_
    refine Fu (s':=[(0,(Ag x)),(1,(Ag (k.drop 1))),(2,(.clo q)),(7,(.own 0)),(10,(.int .i64 (nth k 0))),(69,(.clo q)),(70,(.bool (B4 x k))),(71,(.bool (B4 k x))),(72,(.bool (p ((B4 x k)) ((B4 k x)))))]) (a:=(.clo q)) (al:=[(.bool (B4 x k)),(.bool (B4 k x))]) (r:=(.bool (p ((B4 x k)) ((B4 k x))))) (by kernel_rfl) (by kernel_rfl) (by kernel_rfl) (by kernel_rfl) (by kernel_rfl) ((hq _ _).clo) (by kernel_rfl) ?_
    refine B5 ?_
    refine A8 (q:=p ((B4 x k)) ((B4 k x))) (by kernel_rfl) (fun c7=>?_) (fun c7=>?_)
    ·try simp only[Ao] at c7
     refine Ap ?_
     refine Av 0 [] [0,1,2,7] [] hk0 v0 (cc 3 (p:=(((zs.map (AV.int .i64)).length+1)*8≤140737488355328)) (by(simp;omega))<|c0) ?_
     refine⟨by kernel_rfl,_,?_,g1-1,x,(k.drop 1),zs++[nth k 0],?_,?_,?_,?_,?_,(Eq.trans (b:=(⟨[(0,(Ag x)),(1,(Ag (k.drop 1))),(2,(.clo q)),(7,(.own 0))],[(0,(.grow ((zs.map (AV.int .i64))++([(.int .i64 (nth k 0))]:List AV)) 3 1))],1⟩:St)) (by kernel_rfl) (by rw[List.map_append]<;>kernel_rfl)),rfl⟩
     ·omega
     ·(try rw[List.length_drop]);omega
     ·(try rw[List.length_drop]);omega
     ·(repeat rw[List.length_drop]);omega
     ·(try rw[List.length_append,List.length_singleton]);(repeat rw[List.length_drop]);omega
     ·rw[c2,c6] at c7
      rw[f1_5,L4 (by omega) hne c2 c6]
      simp[c7]
    ·try simp only[Ao] at c7
     refine Ai ?_
     refine⟨by kernel_rfl,_,?_,g1-1,x,(k.drop 1),zs,?_,?_,?_,?_,?_,(by kernel_rfl),rfl⟩
     ·omega
     ·(try rw[List.length_drop]);omega
     ·(try rw[List.length_drop]);omega
     ·(repeat rw[List.length_drop]);omega
     ·(try rw[List.length_append,List.length_singleton]);(repeat rw[List.length_drop]);omega
     ·rw[c2,c6] at c7
      rw[f1_5,L4 (by omega) hne c2 c6]
      simp[c7]
   ·try simp only[Ao] at c6
    have:=X2f hne c2
    rw[c6] at this
    cases this
 ·subst hb1
  try simp only[Ao] at c1
  refine Bt ?_
  refine Aa [] [6] ?_
  refine Ah ?_
  refine RK wR [(.row 1 (zs.map (AV.int .i64)).length (fun ix=>(zs.map (AV.int .i64)).getD ix Bp))] ?_
  simp only[An]
  exact Same.grown (f:=AV.int .i64) (l:=Kp p a b) (by
   obtain rfl:x=[]:=List.length_eq_zero_iff.1 (by omega)
   obtain rfl:k=[]:=List.length_eq_zero_iff.1 (by omega)
   unfold Kp
   rw[f1_5,X0p,List.append_nil])
theorem N1 (a b : List Int) (ha : a.length ≤ 4194304) (hb : b.length ≤ 4194304) :
  FnV Tryz.prog 73 [(Ag a),(Ag b)] (Ag (Ae a b)):=by
 refine A5 [.tmp 4] Tryz.func73 rfl Tryz.ntmps73 rfl rfl (fun B F hF=>?_)
 refine Aa [] [0,1] ?_
 refine Af [] [4] [] (hk 2 (al:=[(Ag a),(Ag b),(.fn 134 [] [])]) Q2k (((Zv a b (.fn 134 [] []) (fun _ v => !v) ha hb (fun u v=>FunV.of (by exact X4b) (X0a u v))).of_args (ImpL.cons Imp.refl (ImpL.cons Imp.refl (ImpL.cons (Imp.clo rfl) ImpL.nil)))).to (Same.of_eq (by rw[Q99])))<|hk0) v0 c0 ?_
 refine Ah ?_
 refine RK wR [(Ag (Ae a b))] ?_
 exact Same.of_eq (by first|rfl|(simp only[An];simp_all))
theorem Tt (a b : List Int) (ha : a.length ≤ 4194304) (hb : b.length ≤ 4194304) :
  FnV Tryz.prog 69 [(Ag a),(Ag b)] (Ag (Aw a b)):=by
 refine A5 [.tmp 4] Tryz.func69 rfl Tryz.ntmps69 rfl rfl (fun B F hF=>?_)
 refine Aa [] [0,1] ?_
 refine Af [] [4] [] (hk 2 (al:=[(Ag a),(Ag b),(.fn 132 [] [])]) Q2k (((Zv a b (.fn 132 [] []) (fun _ _=>true) ha hb (fun u v=>FunV.of (by exact X4c) (Q5x u v))).of_args (ImpL.cons Imp.refl (ImpL.cons Imp.refl (ImpL.cons (Imp.clo rfl) ImpL.nil)))).to (Same.of_eq (by rw[Q5w])))<|hk0) v0 c0 ?_
 refine Ah ?_
 refine RK wR [(Ag (Aw a b))] ?_
 exact Same.of_eq (by first|rfl|(simp only[An];simp_all))
end Sv
end
section
open Go Go.RowKit
namespace Sv
attribute [local irreducible] SW SO Bn
set_option maxHeartbeats 1000000
set_option maxRecDepth 100000
def Gb (k:Int) (a b:List UInt8):Int × Int:=if ¬(Bj k a b).2.2=0 then (0,(Bj k a b).2.2) else (orI (Cy k (Bj k a b).1 (Bj k a b).2.1).1 (Cy k (Bj k a b).1 (Bj k a b).2.1).2,0)
def Sgn (x:Int):Prop := -1≤x∧x≤1
theorem Nb:Sgn 0:=⟨by decide,by decide⟩
theorem Na:Sgn 1:=⟨by decide,by decide⟩
theorem O7:Sgn (-1):=⟨by decide,by decide⟩
theorem U8 (a b:Int):Sgn (Gs a b):=by unfold Gs Sgn;split<;>(try split)<;>omega
theorem Nn {a b:Int} (h1:Sgn a) (h2:Sgn b):Sgn (orI a b):=by unfold orI;split<;>assumption
theorem Sy {g:Int} (a b:Bool) (h:Sgn g):Sgn (F4 a b g):=by unfold F4 Sgn at *;split<;>(try split)<;>omega
theorem Vb:∀a b:List UInt8,Sgn (Lib.compareBytes a b)
 |[],[]=>Nb
 |[],_::_=>O7
 |_::_,[]=>Na
 |a::r,b::s=>by
  unfold Lib.compareBytes
  split
  ·exact O7
  ·split
   ·exact Na
   ·exact Vb r s
theorem Nq (a b:List UInt8):Sgn (D9 a b):=Nn (U8 _ _) (Vb _ _)
theorem Qy:∀(n:Nat) (a b:List UInt8),Sgn (Gp n a b)
 |0,_,_=>Nb
 |n+1,a,b=>by
  unfold Gp
  split
  ·split
   ·exact U8 _ _
   ·exact Qy n _ _
  ·split
   ·exact Nq _ _
   ·split
    ·exact Qy n _ _
    ·exact Nb
theorem Pd:∀(n:Nat) (a b:List UInt8),Sgn (Io n a b)
 |0,_,_=>Nb
 |n+1,a,b=>by
  unfold Io Fj
  repeat' split
  all_goals first|exact Pd n _ _|exact Sy _ _ Na|exact Sy _ _ O7|exact U8 _ _|exact Nq _ _|exact Vb _ _|exact Na|exact O7
theorem Q29 (k:Int) (a b:List UInt8):Sgn (Gb k a b).1:=by
 unfold Gb
 split
 ·exact Nb
 ·have h1 : ∀ x y : List UInt8 × List UInt8 × List UInt8, Sgn (Cy k x y).1 ∧ Sgn (Cy k x y).2 := fun x y => by
   unfold Cy Jv Hz
   split
   ·exact⟨Nn (Nq _ _) (Qy _ _ _),Qy _ _ _⟩
   ·split
    ·exact⟨Nn (Nq _ _) (Pd _ _ _),Sy _ _ Na⟩
    ·exact⟨Nn (Nq _ _) (Pd _ _ _),Pd _ _ _⟩
  exact Nn (h1 _ _).1 (h1 _ _).2
theorem X5b (k : Int) (a b : List UInt8) (ha : a.length ≤ 4194304) (hb : b.length ≤ 4194304) :
  FnV Tryz.prog 85 [(.int .i64 k),(.str a),(.str b)] (.tup [.int .i64 (Gb k a b).1,.int .i64 (Gb k a b).2]):=by
 have hbl:=Q3p k a b
 refine A5 [.tmp 6,.tmp 7] Tryz.func85 rfl Tryz.ntmps85 rfl rfl (fun B F hF=>?_)
 refine Aa [] [0,1,2] ?_
 refine Af [] [0,8,9,10] [(11,8),(12,9)] (hk 3 Q2j (Q3m k a b (by omega) (by omega))<|hk0) v0 c0 ?_
 refine Ad ?_
 refine Aa [] [0,8,9,10,20] ?_
 refine Dt (p:=((Bj k a b).2.2)=0) (by kernel_rfl) (fun c1=>?_) (fun c1=>?_)
 ·refine Aa [] [6,7] ?_
  refine Ah ?_
  refine RK wR [(.int .i64 0),(.int .i64 ((Bj k a b).2.2))] ?_
  exact Same.of_eq (by simp only[An];unfold Gb;rw[if_pos (by assumption)])
 ·refine Ai ?_
  refine Af [] [6,7] [(7,28)] (hk 3 Q2i (X2 k (Bj k a b).1 (Bj k a b).2.1 ⟨by omega,by omega,by omega⟩ ⟨by omega,by omega,by omega⟩)<|hk 7 Qs (Pu (Cy k (Bj k a b).1 (Bj k a b).2.1).1 (Cy k (Bj k a b).1 (Bj k a b).2.1).2)<|hk0) (vk 7 28 (b:=(Ag [(Cy k (Bj k a b).1 (Bj k a b).2.1).1,(Cy k (Bj k a b).1 (Bj k a b).2.1).2])) (Imp.list (f:=AV.int .i64) rfl)<|v0) c0 ?_
  refine Ah ?_
  refine RK wR [(.int .i64 (orI (Cy k (Bj k a b).1 (Bj k a b).2.1).1 (Cy k (Bj k a b).1 (Bj k a b).2.1).2)),(.int .i64 0)] ?_
  exact Same.of_eq (by simp only[An];unfold Gb;rw[if_neg (by simp_all)])
end Sv
end
section
open Go Go.RowKit
namespace Sv
abbrev Bc:=Int × Int × Int
def Cs (k:Int):Bool:=decide (k=1)||(decide (k=3)||(decide (k=4)||decide (k=5)))
def H5 (k:Int):Bool:=decide (k=2)||(decide (k=6)||decide (k=7))
def Gv (s:List Int) (q:Bc):List Int:=if Cs q.1=true then Aw s [q.2.1] else if H5 q.1=true then Ae s [q.2.1] else s
def Aj (l:List Int) (q:List Bc):List Int:=q.foldl Gv (Ce l)
theorem Vj {l:List Int} {q:List Bc} {x:Bc}:Aj l (q++[x])=Gv (Aj l q) x:=by unfold Aj;rw[List.foldl_append];rfl
theorem Q09 {α β:Type} {C:β→Prop} {f:β→α→β} (h:∀s a,C s→C (f s a)):∀(l:List α) (s:β),C s→C (l.foldl f s)
  |[],_,k=>k
  |a::l,s,k=>Q09 h l _ (h s a k)
theorem Q34 (l:List Int) (q:List Bc):Cq (Aj l q):=Q09 (C:=Cq) (fun s a h=>by
  unfold Gv
  split
  · exact M2 _ _
  · split
    · exact Fm _ _
    · exact h) q _ (Il l)
theorem X59 (s:List Int) (x:Bc):(Gv s x).length≤s.length+1:=by
  unfold Gv
  split
  · have:=Im (s++[x.2.1])
    unfold Aw
    rw[List.length_append,List.length_singleton] at this
    exact this
  · split
    · have h1:=Im (s.filter fun z => !decide (z∈[x.2.1]))
      have h2:=List.length_filter_le (fun z => !decide (z∈[x.2.1])) s
      unfold Ae;omega
    · omega
theorem Q6 (l:List Int) (q:List Bc):(Aj l q).length≤l.length+q.length:=by
  have h:∀(q:List Bc) (s:List Int),(q.foldl Gv s).length≤s.length+q.length:=by
    intro q
    induction q with
    |nil=>intro s;exact Nat.le_refl _
    |cons x q ih =>
      intro s
      have h1:=X59 s x
      have h2:=ih (Gv s x)
      simp only[List.foldl_cons,List.length_cons];omega
  have h1:=h q (Ce l)
  have h2:=Im l
  unfold Aj;omega
def B9 (p:Int→Bool) (l:List Int):Int:=if 0≤B3 p l then nth l (B3 p l).toNat else -1
theorem Ng:∀{l:List Int},Cq l→l.Nodup
  |[],_=>List.nodup_nil
  |x::l,h=>List.nodup_cons.2 ⟨fun k=>by have:=h.1 x k;omega,Ng h.2⟩
section
variable {f : List Int → List Int → Int → Bc} {a b : List Int}
def Q4y (f:List Int→List Int→Int→Bc):Prop:=∀c g i,(f c g i).2.1=i∧(i∈c→Cs (f c g i).1=true∧H5 (f c g i).1=false)∧(¬i∈c→Cs (f c g i).1=false∧H5 (f c g i).1=true)
def Cm (f:List Int→List Int→Int→Bc) (a b:List Int):List Bc:=(Aw (Ae b a) (Ae a b)).map (f (Ae b a) (Ae a b))
theorem Q58 (h:Q4y f):(Cm f a b).map (fun x=>x.2.1)=Aw (Ae b a) (Ae a b):=by
  unfold Cm
  rw[List.map_map]
  refine Eq.trans (List.map_congr_left fun i _=>(h _ _ i).1) (List.map_id _)
theorem Q59:(Cm f a b).length=(Aw (Ae b a) (Ae a b)).length:=by unfold Cm;rw[List.length_map]
end
def Zq (st:PoolT) (o:Int):List UInt8:=(nth st.all o.toNat).1.name
def Mi (st:PoolT) (o:Int):List UInt8:=(nth st.all o.toNat).1.evr
def C5 (st:PoolT) (id o:Int):Bool:=decide (Zq st o=Zq st id)
def G2 (m:Int→Int→List UInt8→Int→List UInt8→Bool × Int) (st:PoolT) (id o:Int):Bool:=(nth st.all o.toNat).1.obsoletes.any fun d=>decide (id∈(E9 m st d).1)
def Ob (st:PoolT) (g:List Int) (id:Int):Bc :=
  if 0≤B9 (C5 st id) g then (nth [4,5,3] ((Gb st.kind (Mi st id) (Mi st (B9 (C5 st id) g))).1+1).toNat,id,B9 (C5 st id) g) else (1,id,B9 (C5 st id) g)
def goS (m:Int→Int→List UInt8→Int→List UInt8→Bool × Int) (st:PoolT) (c:List Int) (id:Int):Bc :=
  if 0≤B9 (C5 st id) c then (6,id,B9 (C5 st id) c) else if 0≤B9 (G2 m st id) c then (7,id,B9 (G2 m st id) c) else (2,id,B9 (G2 m st id) c)
def Bs (m:Int→Int→List UInt8→Int→List UInt8→Bool × Int) (st:PoolT) (c g:List Int) (id:Int):Bc:=if id∈c then Ob st g id else goS m st c id
def Et (st:PoolT) (id:Int):Bool:=decide (id < 0)||decide ((st.all.length:Int)≤id)
def Al (m:Int→Int→List UInt8→Int→List UInt8→Bool × Int) (st:PoolT) (a b:List Int):List Bc × Int:=if a.any (Et st)=true∨b.any (Et st)=true then ([],69) else (Cm (Bs m st) a b,0)
theorem M8 (m:Int→Int→List UInt8→Int→List UInt8→Bool × Int) (st:PoolT):Q4y (Bs m st):=by
  intro c g i
  refine⟨?_,fun h=>?_,fun h=>?_⟩
  · unfold Bs Ob goS
    repeat' split
    all_goals rfl
  · unfold Bs Ob
    rw[if_pos h]
    split
    · have h1:=Q29 st.kind (Mi st i) (Mi st (B9 (C5 st i) g))
      unfold Sgn at h1
      generalize (Gb st.kind (Mi st i) (Mi st (B9 (C5 st i) g))).1=x at h1
      rcases (by omega:x = -1∨x=0∨x=1) with rfl|rfl|rfl<;>exact⟨rfl,rfl⟩
    · exact⟨rfl,rfl⟩
  · unfold Bs goS
    rw[if_neg h]
    repeat' split
    all_goals exact⟨rfl,rfl⟩
theorem Jg {m:Int→Int→List UInt8→Int→List UInt8→Bool × Int} {st:PoolT} {a b:List Int} (ha:∀x∈a,0≤x∧x < st.all.length) (hb:∀x∈b,0≤x∧x < st.all.length):Al m st a b=(Cm (Bs m st) a b,0):=by
  have k:∀l:List Int,(∀x∈l,0≤x∧x < st.all.length)→l.any (Et st)=false:=fun l h=>by
    rw[List.any_eq_false]
    intro x hx
    have:=h x hx
    unfold Et
    simp;omega
  unfold Al
  rw[k a ha,k b hb];rfl
end Sv
end
section
open Go Go.RowKit
namespace Sv
section
variable {P : Program} {n : Nat} {φ : Phi} {σ : Nat → Value}
theorem Q6q {dst : Option Tmp} {t : Nat} {X LO HI MX : Operand} {ty : TypeId} {ps : String} {af : Array Edge} {g : Option (Nat × Bool)} {e sz len i j m : Nat} {k1 k2 k3 : IntKind} {gf : Nat → AV} {s : Fr}
    (he:Fa P t=some e) (hs:tsz P e=some sz) (hx:evA s X=some (.row sz len gf)) (h1:evA s LO=some (.int k1 (i:Int))) (h2:evA s HI=some (.int k2 (j:Int))) (h3:evA s MX=some (.int k3 (m:Int)))
    (hj:i < j) (hjm:j≤m) (hm:m≤len) (φ:Phi) (σ:Nat→Value) (h:FRel φ n s σ) :
    ∃v,(∀w,(execOp (ev n σ) ⟨dst,.slice t X (some LO) (some HI) (some MX),ty,ps,af,g⟩).run P w = .ok (.value v) w)∧VR φ (.row sz (j-i) (fun q=>gf (i+q))) v:=by
  have hx:=h.ev _ _ hx
  have h1:=h.ev _ _ h1
  have h2:=h.ev _ _ h2
  have h3:=h.ev _ _ h3
  simp only[VR] at hx h1 h2 h3
  obtain⟨u,hu,hr⟩:=hx
  rcases hr with⟨h0,_⟩|⟨b,o,c,hv,hmc,hl⟩
  · omega
  · have hb:=fun w=>Gz (P:=P) (isS:=true) (len:=len) (cap:=c) (i:=i) (j:=j) (m:=m) (lo:=some (.int k1 (i:Int))) (hi:=some (.int k2 (j:Int))) (mx:=some (.int k3 (m:Int))) (.inr ⟨_,rfl⟩) (.inr ⟨_,rfl⟩) (.inr ⟨⟨_,rfl⟩,by simp⟩) (by omega) (by omega) (by omega) w
    refine⟨.slice (some (if m=i then ⟨b,o,none⟩ else (⟨b,o,none⟩:Addr).add (i*sz))) (j-i) (m-i),fun w=>?_,?_⟩
    · simp only[execOp,Instr.sliceAt,Instr.slice,Sem.run_bind,Sem.run_pure,run_underlying (D1 he),Result.andThen_ok,hv,hb,C3 hs,Option.map_some,h1,h2,h3]<;>(try split)<;>rfl
    · simp only[VR]
      refine⟨fun q=>u (i+q),fun q hq=>hu _ (by omega),.inr ⟨b,o+i*sz,m-i,by rw[if_neg (by omega),Eg],by omega,fun q hq=>?_⟩⟩
      have:=hl (i+q) (by omega)
      refine⟨this.1,?_⟩
      rw[show o+i*sz+q*sz=o+(i+q)*sz by rw[Nat.add_mul];omega]
      exact this.2
end
end Sv
end
section
open Go Go.RowKit
namespace Sv
attribute [local irreducible] SW SO Bn
set_option maxHeartbeats 400000
set_option maxRecDepth 100000
theorem X2z:Au Tryz.prog 86:=Ay Tryz.func86 (by kernel_rfl) rfl
theorem Ud:Au Tryz.prog 84:=Ay Tryz.func84 (by kernel_rfl) rfl
theorem X22:Au Tryz.prog 81:=Ay Tryz.func81 (by kernel_rfl) rfl
theorem X21:Au Tryz.prog 82:=Ay Tryz.func82 (by kernel_rfl) rfl
theorem X2y:Au Tryz.prog 87:=Ay Tryz.func87 (by kernel_rfl) rfl
theorem X2x:Au Tryz.prog 89:=Ay Tryz.func89 (by kernel_rfl) rfl
theorem Sw {p:PkgT} {n:Nat} (h:p.size≤n):p.evr.length≤n∧p.obsoletes.length≤n∧∀i,i < p.obsoletes.length→(nth p.obsoletes i).size≤n:=by
 have hz:=p.sizes
 have h1:=D2 p.obsoletes
 unfold PkgT.depSize at hz
 refine⟨by omega,by omega,fun i hi=>?_⟩
 have h2:=K7 (l:=p.obsoletes) (i:=i) hi
 omega
theorem Q36 (l:List Int) (v:Int):(l.any fun x=>decide (v=x))=decide (v∈l):=by
 rw[Bool.eq_iff_iff];simp
theorem Q9k {st:PoolT} (hi:IdxOk st) {d:DepT}:(E9 Ab st d).1.length≤4611686018427387904:=by
 unfold E9
 split
 ·exact Zn hi
 ·simp
theorem L6 {x:Int} (h:0≤x):x=((x.toNat:Nat):Int):=by omega
theorem X06  :
  FnV Tryz.prog 86 [] (Ag [4,5,3]):=by
 refine A5 [.tmp 0] Tryz.func86 rfl Tryz.ntmps86 rfl rfl (fun B F hF=>?_)
 refine Aa [] [] ?_
 refine Aa [] [1] ?_
 refine Ad ?_
 refine Ap ?_
 refine Br 1 0 [] [3] [] hk0 v0 c0 ?_
 refine Vs 3 (y:=⟨[(3,(.row 1 4 (fun ix=>(E3 1 4 [(.int .i64 4),(.int .i64 5),(.int .i64 3),(.int .i64 6)]).getD ix Bp)))],[],1⟩) (by kernel_rfl) ?_
 refine Ft 3 (Ag [4,5,3,6]) (by kernel_rfl) (Imp.list (f:=AV.int .i64) rfl) ?_
 refine Ot (s':=[(3,(Ag [4,5,3,6])),(4,(.row 1 (3-0) (fun kx=>Jl (Ag [4,5,3,6]) (0+kx))))]) (.row 1 (3-0) (fun kx=>Jl (Ag [4,5,3,6]) (0+kx))) (by kernel_rfl) (Q6q (k1:=.i64) (k2:=.i64) (k3:=.i64) (e:=3) (i:=0) (j:=3) (m:=3) (len:=[4,5,3,6].length) (gf:=Jl (Ag [4,5,3,6])) (by kernel_rfl) (by kernel_rfl) (by kernel_rfl) (by kernel_rfl) (by kernel_rfl) (by kernel_rfl) (by decide) (by decide) (by simp)) (by kernel_rfl) ?_
 refine Av 2 [] [0] [] hk0 v0 c0 ?_
 refine Ah ?_
 refine RK wR [(.row 1 (3-0) (fun kx=>Jl (Ag [4,5,3,6]) (0+kx)))] ?_
 simp only[An]
 exact(Imp.row fun i hi=>Imp.of_eq (by rcases (by simpa using hi:i < 3) with h;rcases (by omega:i=0∨i=1∨i=2) with rfl|rfl|rfl<;>rfl)).same
theorem T2 (l : List Int) (a : AV) (p : Int → Bool) (hl : l.length ≤ 4611686018427387904) (ha : ∀ i, i < l.length → FunV Tryz.prog a [.int .i64 (nth l i)] (.bool (p (nth l i)))) :
  FnV Tryz.prog 84 [(Ag l),(.int .i64 (-1)),(.clo a)] (.int .i64 (B9 p l)):=by
 have hle:=L8 p l
 refine A5 [.tmp 6] Tryz.func84 rfl Tryz.ntmps84 rfl rfl (fun B F hF=>?_)
 refine Aa [] [0,1,2] ?_
 refine Ad ?_
 refine Af [] [0,1,7] [] (hk 2 Q2m (Q0l l a p hl ha)<|hk0) v0 c0 ?_
 refine Aa [] [0,1,7,12] ?_
 refine A6 (p:=0≤(B3 p l)) (by kernel_rfl) (fun c1=>?_) (fun c1=>?_)
 ·refine Af [] [6] [] hk0 v0 (cc 2 (p:=(0≤B3 p l∧(B3 p l:Int).toNat < l.length)) (by omega)<|c0) ?_
  refine Ah ?_
  refine RK wR [(.int .i64 (nth l ((B3 p l:Int).toNat)))] ?_
  exact Same.of_eq (by simp only[An];unfold B9;rw[if_pos (by simp_all)])
 ·refine Ai ?_
  refine Aa [] [6] ?_
  refine Ah ?_
  refine RK wR [(.int .i64 (-1))] ?_
  exact Same.of_eq (by simp only[An];unfold B9;rw[if_neg (by simp_all)])
theorem Q9j (st : PoolT) (id : Int) :
  FnV Tryz.prog 81 [(.int .i64 id),(.fp (.agg [(.fp (Bm st))]))] (.bool (Et st id)):=by
 refine A5 [.tmp 3] Tryz.func81 rfl Tryz.ntmps81 rfl rfl (fun B F hF=>?_)
 refine Aa [] [0,1] ?_
 obtain⟨b1,hb1⟩:∃b,b=(decide (id < 0)):=⟨_,rfl⟩
 refine Af (CS:=[(5,(!b1)=true→(!b1)=true),(6,((!b1)=true→(!b1)=true∧(!b1)=true)),(7,(b1=false→(!b1)=true))]) [7,8,10] [3] [] (hkg 5 (!b1) Q1z (fun cg=>Q5h st)<|hk0) (vk 3 6 (a:=.bool (decide (id < 0))) (b:=.bool b1) (Imp.of_eq (by rw[hb1]))<|v0) (by refine cc _ ?_<|cc _ ?_<|cc _ ?_ c0<;>simp) ?_
 refine Ah ?_
 refine RK wR [(.bool (b1||(decide ((st.all.length:Int)≤id))))] ?_
 subst hb1
 exact Same.of_eq (by simp only[An];rfl)
theorem Q94 (st : PoolT) (hi : IdxOk st) (id : Int) (o : Nat) (ho : o < st.all.length) :
  FnV Tryz.prog 82 [(.int .i64 ((o:Int))),(.fp (.agg [(.fp (Bm st))])),(.fp (Ar ((nth st.all id.toNat).1)))] (.bool (C5 st id (o:Int))):=by
 refine A5 [.tmp 4] Tryz.func82 rfl Tryz.ntmps82 rfl rfl (fun B F hF=>?_)
 refine Aa [] [0,1,2] ?_
 refine Af [] [2,5] [(9,5)] (hk 2 I3 (Je st o ho (hi.2 o ho))<|hk0) v0 c0 ?_
 refine Aa [] [4] ?_
 refine Ah ?_
 refine RK wR [(.bool (decide (((nth st.all o).1).name=((nth st.all id.toNat).1).name)))] ?_
 exact Same.of_eq (by simp only[An];rfl)
theorem Q9m (st : PoolT) (hi : IdxOk st) (id : Int) (d : DepT) (hd : d.size ≤ 4194304) :
  FnV Tryz.prog 89 [(.agg [(.int .i64 d.kind),(.str d.name),(.int .i64 d.op),(.str d.evr),(.row 5 d.args.length (depAt d.args))]),(.fp (.agg [(.fp (A4 st))])),(.fp (.agg [(.int .i64 id)]))] (.bool (decide (id∈(E9 Ab st d).1))):=by
 refine A5 [.tmp 4] Tryz.func89 rfl Tryz.ntmps89 rfl rfl (fun B F hF=>?_)
 refine Af [] [1,2,3] [(1,3)] hk0 v0 c0 ?_
 refine Af [] [2,5] [] (hk 2 X4a (X8a Ab Ti st hi d hd)<|hk0) v0 c0 ?_
 refine Af [] [4] [] (hk 2 Ue ((U4 (E9 Ab st d).1 id (Q9k hi)).to (Same.of_eq (by rw[Q36])))<|hk0) v0 c0 ?_
 refine Ah ?_
 refine RK wR [(.bool (decide (id∈(E9 Ab st d).1)))] ?_
 exact Same.of_eq (by first|rfl|(simp only[An];simp_all))
theorem Q9n (st:PoolT) (hi:IdxOk st) (id:Int) (d:DepT) (hd:d.size≤4194304):FunV Tryz.prog (.fn 89 [] [.fp (.agg [(.fp (A4 st))]),.fp (.agg [.int .i64 id])]) [(.agg [(.int .i64 (d.kind)),(.str (d.name)),(.int .i64 (d.op)),(.str (d.evr)),(.row 5 d.args.length (depAt d.args))])] (.bool (decide (id∈(E9 Ab st d).1))):=FunV.of (by exact X2x) (Q9m st hi id d hd)
theorem Q9o (st : PoolT) (hi : IdxOk st) (id : Int) (o : Nat) (ho : o < st.all.length) :
  FnV Tryz.prog 87 [(.int .i64 ((o:Int))),(.fp (.agg [(.fp (Bm st))])),(.fp (.agg [(.fp (A4 st))])),(.fp (.agg [(.int .i64 id)]))] (.bool (G2 Ab st id (o:Int))):=by
 have hlz:=Sw (hi.2 o ho)
 refine A5 [.tmp 5] Tryz.func87 rfl Tryz.ntmps87 rfl rfl (fun B F hF=>?_)
 refine Aa [] [0,1,2,3] ?_
 refine Af [] [2,3,6] [(9,6)] (hk 2 I3 (Je st o ho (hi.2 o ho))<|hk0) v0 c0 ?_
 refine Ad ?_
 refine Ap ?_
 refine Br 3 0 [] [17,18] [] hk0 v0 c0 ?_
 refine Jd (s':=[(17,(Ac 5 Ak (((nth st.all o).1).obsoletes))),(18,(.fn 89 [] [(.fp (.agg [(.fp (A4 st))])),(.fp (.agg [(.int .i64 id)]))])),(19,(.bool ((nth st.all o).1.obsoletes.any fun d=>decide (id∈(E9 Ab st d).1))))]) (al:=[(Ac 5 Ak (((nth st.all o).1).obsoletes)),(.fn 89 [] [(.fp (.agg [(.fp (A4 st))])),(.fp (.agg [(.int .i64 id)]))])]) (al':=[(Ac 5 Ak (((nth st.all o).1).obsoletes)),(.fn 89 [] [(.fp (.agg [(.fp (A4 st))])),(.fp (.agg [(.int .i64 id)]))])]) (h':=[]) (r:=(.bool ((nth st.all o).1.obsoletes.any fun d=>decide (id∈(E9 Ab st d).1)))) (by kernel_rfl) (by exact Qm) (by kernel_rfl) (by kernel_rfl) ((Qx (nth st.all o).1.obsoletes (.fn 89 [] [(.fp (.agg [(.fp (A4 st))])),(.fp (.agg [(.int .i64 id)]))]) (fun d=>decide (id∈(E9 Ab st d).1)) (by omega) (fun i hj=>Q9n st hi id _ (hlz.2.2 i hj))).of_args (ImpL.cons Imp.refl (ImpL.cons (Imp.clo (by kernel_rfl)) ImpL.nil))) rfl (by kernel_rfl) ?_
 refine Av 4 [] [5] [] hk0 v0 c0 ?_
 refine Ah ?_
 refine RK wR [(.bool ((nth st.all o).1.obsoletes.any fun d=>decide (id∈(E9 Ab st d).1)))] ?_
 exact Same.of_eq (by simp only[An];rfl)
theorem Y5 (st:PoolT) (id:Int):FunV Tryz.prog (.fn 81 [] [.fp (.agg [(.fp (Bm st))])]) [.int .i64 id] (.bool (Et st id)):=FunV.of (by exact X22) (Q9j st id)
theorem Zp (st:PoolT) (hi:IdxOk st) (id o:Int) (ho:0≤o∧o < st.all.length):FunV Tryz.prog (.fn 82 [] [.fp (.agg [(.fp (Bm st))]),.fp (Ar ((nth st.all id.toNat).1))]) [.int .i64 o] (.bool (C5 st id o)):=by
 obtain⟨n,rfl⟩:=Int.eq_ofNat_of_zero_le ho.1
 exact FunV.of (by exact X21) (Q94 st hi id n (by omega))
theorem Q9p (st:PoolT) (hi:IdxOk st) (id o:Int) (ho:0≤o∧o < st.all.length):FunV Tryz.prog (.fn 87 [] [.fp (.agg [(.fp (Bm st))]),.fp (.agg [(.fp (A4 st))]),.fp (.agg [.int .i64 id])]) [.int .i64 o] (.bool (G2 Ab st id o)):=by
 obtain⟨n,rfl⟩:=Int.eq_ofNat_of_zero_le ho.1
 exact FunV.of (by exact X2y) (Q9o st hi id n (by omega))
end Sv
end
section
open Go Go.RowKit
namespace Sv
attribute [local irreducible] SW SO Bn
set_option maxHeartbeats 2000000
set_option maxRecDepth 100000
theorem X20:Au Tryz.prog 85:=Ay Tryz.func85 (by kernel_rfl) rfl
theorem X3e:Au Tryz.prog 28:=Ay Tryz.func28 (by kernel_rfl) rfl
theorem Um:Au Tryz.prog 29:=Ay Tryz.func29 (by kernel_rfl) rfl
def A3 (q:Bc):AV:=.agg [.int .i64 q.1,.int .i64 q.2.1,.int .i64 q.2.2]
theorem M9 {u:List Int} {f:Int→Bc} {i:Nat} {x:Bc} (h:i < u.length) (e:f (nth u i)=x):((u.take (i+1)).map f).map A3=((u.take i).map f).map A3++[A3 x]:=by
 rw[Gg h,List.map_append,List.map_append]
 simp[e]
theorem Vh {l:List Int} {q:List Bc} {i:Nat} (h:i < q.length):Aj l (q.take (i+1))=Gv (Aj l (q.take i)) (nth q i):=by rw[Gg h,Vj]
theorem Q7 {st:PoolT} {l:List Int} (h:¬l.any (Et st)=true):∀x∈l,0≤x∧x < st.all.length:=by
 intro x hx
 have h:l.any (Et st)=false:=by simpa using h
 rw[List.any_eq_false] at h
 have:=h x hx
 unfold Et at this
 simp at this
 omega
theorem Nr {l:List Int} {i:Nat} (h:i < l.length):nth l i∈l:=by rw[El h];exact List.getElem_mem h
theorem Zz {l:List Int} {x:Int} (h:x∈l):∃i,i < l.length∧nth l i=x:=by
 obtain⟨i,hi,e⟩:=List.getElem_of_mem h
 exact⟨i,hi,by rw[El hi,e]⟩
theorem Zs {st:PoolT} {a b:List Int} (h:∀x∈a,0≤x∧x < st.all.length):∀j,j < (Ae a b).length→0≤nth (Ae a b) j∧nth (Ae a b) j < st.all.length:=fun j hj=>h _ (minusZ_mem.1 (Nr hj)).1
theorem Q5v {st:PoolT} {a b:List Int} (h:∀j,j < a.length→0≤nth a j∧nth a j < st.all.length) (k:∀j,j < b.length→0≤nth b j∧nth b j < st.all.length):∀j,j < (Aw a b).length→0≤nth (Aw a b) j∧nth (Aw a b) j < st.all.length:=fun j hj=>by
 rcases unionZ_mem.1 (Nr hj) with q|q
 ·obtain⟨n,hn,e⟩:=Zz q
  rw[←e];exact h n hn
 ·obtain⟨n,hn,e⟩:=Zz q
  rw[←e];exact k n hn
theorem X2i {st:PoolT} {p:Int→Bool} {l:List Int} (h:∀j,j < l.length→0≤nth l j∧nth l j < st.all.length) (k:0≤B9 p l):0≤B9 p l∧B9 p l < st.all.length:=by
 unfold B9 at k ⊢
 have:=L8 p l
 split at k
 ·rename_i q
  rw[if_pos q];exact h _ (by omega)
 ·omega
theorem Zt (a b:List Int):(Ae a b).length≤a.length:=Nat.le_trans (Im _) (List.length_filter_le _ _)
theorem Wg (a b:List Int):(Aw a b).length≤a.length+b.length:=by have:=Im (a++b);rw[List.length_append] at this;exact this
theorem X7c (st : PoolT) (hi : IdxOk st) (a b : List Int) (ha : a.length ≤ 2097152) (hb : b.length ≤ 2097152) :
  FnV Tryz.prog 28 [(.fp (Bm st)),(Ag a),(Ag b)] (.tup [Ac 3 A3 (Al Ab st a b).1,.int .i64 (Al Ab st a b).2]):=by
 have hcl:=Zt b a
 have hgl:=Zt a b
 have hul:=Wg (Ae b a) (Ae a b)
 refine A5 [.tmp 6,.tmp 7] Tryz.func28 rfl Tryz.ntmps28 rfl rfl (fun B F hF=>?_)
 refine Af [] [1,2,3] [(1,3)] hk0 v0 c0 ?_
 refine Ad ?_
 refine Aa [] [1,2,3,26] ?_
 refine Eh (by kernel_rfl) ?_
 refine Ai ?_
 refine Aa [] [1,2,3,8] ?_
 refine Ad ?_
 refine Ad ?_
 refine Ap ?_
 refine Br 2 0 [] [1,2,3,8,28,29] [] hk0 v0 c0 ?_
 refine Jd (s':=[(1,(Ag a)),(2,(Ag b)),(3,(.fp (.agg [(.fp (Bm st))]))),(8,(.fn 81 [] [(.fp (.agg [(.fp (Bm st))]))])),(28,(Ag a)),(29,(.fn 81 [] [(.fp (.agg [(.fp (Bm st))]))])),(30,(.bool (a.any (Et st))))]) (al:=[(Ag a),(.fn 81 [] [(.fp (.agg [(.fp (Bm st))]))])]) (al':=[(Ag a),(.fn 81 [] [(.fp (.agg [(.fp (Bm st))]))])]) (h':=[]) (r:=(.bool (a.any (Et st)))) (by kernel_rfl) (by exact Qp) (by kernel_rfl) (by kernel_rfl) ((Qa a (.fn 81 [] [(.fp (.agg [(.fp (Bm st))]))]) (Et st) (by omega) (fun j hj=>Y5 st _)).of_args (ImpL.cons Imp.refl (ImpL.cons (Imp.clo (by kernel_rfl)) ImpL.nil))) rfl (by kernel_rfl) ?_
 obtain⟨b1,hb1⟩:∃b,b=(a.any (Et st)):=⟨_,rfl⟩
 refine Br 1 3 [] [1,2,3,8,31] [] hk0 v0 c0 ?_
 refine Ft 31 (a:=.bool (a.any (Et st))) (.bool b1) (by kernel_rfl) (Imp.of_eq (by rw[hb1])) ?_
 refine Q3 b1 (fun c1=>?_) (fun c1=>?_)
 ·refine Ft 31 (a:=.bool b1) (.bool true) (by kernel_rfl) (Imp.of_eq (by rw[c1])) ?_
  refine Av 4 [] [1,2,3,35] [] hk0 v0 c0 ?_
  refine Gd (by kernel_rfl) ?_
  refine Aa [] [6,7] ?_
  refine Ah ?_
  refine RK wR [.nils,(.int .i64 69)] ?_
  subst hb1
  simp only[An]
  rw[show Al Ab st a b=([],69) from by unfold Al;rw[if_pos (.inl c1)]]
  exact(Imp.tups (ImpL.cons Imp.nil (ImpL.cons Imp.refl ImpL.nil))).same
 ·refine Ft 31 (a:=.bool b1) (.bool false) (by kernel_rfl) (Imp.of_eq (by rw[c1])) ?_
  refine Br 2 4 [] [1,2,3,31,32,33] [] hk0 v0 c0 ?_
  refine Jd (s':=[(1,(Ag a)),(2,(Ag b)),(3,(.fp (.agg [(.fp (Bm st))]))),(31,(.bool false)),(32,(Ag b)),(33,(.fn 81 [] [(.fp (.agg [(.fp (Bm st))]))])),(34,(.bool (b.any (Et st))))]) (al:=[(Ag b),(.fn 81 [] [(.fp (.agg [(.fp (Bm st))]))])]) (al':=[(Ag b),(.fn 81 [] [(.fp (.agg [(.fp (Bm st))]))])]) (h':=[]) (r:=(.bool (b.any (Et st)))) (by kernel_rfl) (by exact Qp) (by kernel_rfl) (by kernel_rfl) ((Qa b (.fn 81 [] [(.fp (.agg [(.fp (Bm st))]))]) (Et st) (by omega) (fun j hj=>Y5 st _)).of_args (ImpL.cons Imp.refl (ImpL.cons (Imp.clo (by kernel_rfl)) ImpL.nil))) rfl (by kernel_rfl) ?_
  refine Av 7 [] [1,2,3,35] [] hk0 v0 c0 ?_
  refine A8 (q:=b.any (Et st)) (by kernel_rfl) (fun c2=>?_) (fun c2=>?_)
  ·subst hb1
   try simp only[Ao] at c2
   refine Aa [] [6,7] ?_
   refine Ah ?_
   refine RK wR [.nils,(.int .i64 69)] ?_
   simp only[An]
   rw[show Al Ab st a b=([],69) from by unfold Al;rw[if_pos (.inr c2)]]
   exact(Imp.tups (ImpL.cons Imp.nil (ImpL.cons Imp.refl ImpL.nil))).same
  ·subst hb1
   try simp only[Ao] at c2
   have hra:=Q7 (st:=st) (l:=a) (by rw[c1];simp)
   have hrb:=Q7 (st:=st) (l:=b) (by rw[c2];simp)
   have hcr:=Zs (b:=a) hrb
   have hgr:=Zs (b:=b) hra
   have hur:=Q5v hcr hgr
   refine Ai ?_
   refine Af [] [3,9,10] [] (hk 2 N7 (N1 b a (by omega) (by first|omega|simp))<|hk 5 N7 (N1 a b (by omega) (by first|omega|simp))<|hk0) v0 c0 ?_
   refine Af [] [3,9,10,11] [] (hk 1 Ut (Sr st hi.1 hi.2)<|hk0) v0 c0 ?_
   refine Af [] [3,9,10,11,12] [(0,11)] hk0 v0 c0 ?_
   refine Ad ?_
   refine Af [] [3,9,10,11,12,46,47,48] [] (hk 2 Uh (Tt (Ae b a) (Ae a b) (by omega) (by first|omega|simp))<|hk0) v0 c0 ?_
   refine A1 ?_
   refine Mu 66 3 12 (y:=⟨[(3,(.fp (.agg [(.fp (Bm st))]))),(9,(Ag (Ae b a))),(10,(Ag (Ae a b))),(11,(.fp (.agg [(.fp (A4 st))]))),(12,(.own 2)),(46,(Ag (Aw (Ae b a) (Ae a b)))),(47,(.int .i64 (((Aw (Ae b a) (Ae a b)).length:Int)))),(48,(.int .i64 0))],[(2,(.grow [] 66 3))],3⟩) (by kernel_rfl) (by kernel_rfl) ?_
   refine Bz (fun g y=>∃(i:Nat),i≤(Aw (Ae b a) (Ae a b)).length∧y=⟨[(3,(.fp (.agg [(.fp (Bm st))]))),(9,(Ag (Ae b a))),(10,(Ag (Ae a b))),(11,(.fp (.agg [(.fp (A4 st))]))),(12,(.own 2)),(46,(Ag (Aw (Ae b a) (Ae a b)))),(47,(.int .i64 (((Aw (Ae b a) (Ae a b)).length:Int)))),(48,(.int .i64 ((i:Int))))],[(2,(.grow ((((Aw (Ae b a) (Ae a b)).take i).map (Bs Ab st (Ae b a) (Ae a b))).map A3) 66 3))],3⟩∧g=(Aw (Ae b a) (Ae a b)).length-i) [3,9,10,11,12,46,47,48] 3 _ (by omega) ⟨0,(by omega),(by kernel_rfl),rfl⟩ ?_
   rintro g1 y1 ⟨i,f1_1,rfl,rfl⟩
   refine Aa [] [3,9,10,11,12,46,47,48,49] ?_
   refine Ad ?_
   refine A6 (p:=(i:Int) < ((Aw (Ae b a) (Ae a b)).length:Int)) (by kernel_rfl) (fun c3=>?_) (fun c3=>?_)
   ·have hui:=hur i (by omega)
    have hpl:=Sw (hi.2 (nth (Aw (Ae b a) (Ae a b)) i).toNat (by omega))
    refine Ai ?_
    refine Ad ?_
    refine A1 ?_
    refine Af [] [3,9,10,11,12,14,46,47,48] [] hk0 v0 (cc 0 (p:=(0≤(i:Int)∧i < (Aw (Ae b a) (Ae a b)).length)) (by omega)<|c0) ?_
    refine Af [] [3,9,10,11,12,14,15,46,47,48] [(0,14),(9,15)] (hk 2 (al:=[(.fp (Bm st)),(.int .i64 (nth (Aw (Ae b a) (Ae a b)) i))]) I3 ((Je st (nth (Aw (Ae b a) (Ae a b)) i).toNat (by omega) (hi.2 _ (by omega))).of_args (ImpL.cons Imp.refl (ImpL.cons (Imp.of_eq (congrArg (AV.int .i64) (L6 hui.1))) ImpL.nil)))<|hk0) v0 c0 ?_
    refine Aa [] [3,9,10,11,12,14,15,18,46,47,48] ?_
    refine Aa [] [3,9,10,11,12,14,15,18,19,46,47,48] ?_
    refine Ad ?_
    refine Af [] [3,9,10,11,12,14,15,18,19,46,47,48,64] [] (hk 2 Ue ((U4 (Ae b a) (nth (Aw (Ae b a) (Ae a b)) i) (by omega)).to (Same.of_eq (by rw[Q36])))<|hk0) v0 c0 ?_
    refine A6 (p:=nth (Aw (Ae b a) (Ae a b)) i∈(Ae b a)) (by kernel_rfl) (fun c4=>?_) (fun c4=>?_)
    ·refine Aa [] [3,9,10,11,12,15,18,19,46,47,48] ?_
     refine Ad ?_
     refine Af [] [3,9,10,11,12,15,19,46,47,48] [] (hk 2 (al:=[(Ag (Ae a b)),(.int .i64 (-1)),(.fn 82 [] [(.fp (.agg [(.fp (Bm st))])),(.fp (Ar ((nth st.all ((nth (Aw (Ae b a) (Ae a b)) i).toNat)).1)))])]) Ud ((T2 (Ae a b) (.fn 82 [] [(.fp (.agg [(.fp (Bm st))])),(.fp (Ar ((nth st.all ((nth (Aw (Ae b a) (Ae a b)) i).toNat)).1)))]) (C5 st (nth (Aw (Ae b a) (Ae a b)) i)) (by omega) (fun j hj=>Zp st hi (nth (Aw (Ae b a) (Ae a b)) i) _ (hgr j hj))).of_args (ImpL.cons Imp.refl (ImpL.cons Imp.refl (ImpL.cons (Imp.clo (by kernel_rfl)) ImpL.nil))))<|hk0) v0 c0 ?_
     refine Aa [] [3,9,10,11,12,15,19,46,47,48,72] ?_
     refine A6 (p:=0≤(B9 (C5 st (nth (Aw (Ae b a) (Ae a b)) i)) (Ae a b))) (by kernel_rfl) (fun c5=>?_) (fun c5=>?_)
     ·have hfo:=X2i hgr c5
      have hpo:=Sw (hi.2 (B9 (C5 st (nth (Aw (Ae b a) (Ae a b)) i)) (Ae a b)).toNat (by omega))
      have hcm:=Q29 st.kind (nth st.all (nth (Aw (Ae b a) (Ae a b)) i).toNat).1.evr (nth st.all (B9 (C5 st (nth (Aw (Ae b a) (Ae a b)) i)) (Ae a b)).toNat).1.evr
      unfold Sgn at hcm
      refine Af [] [3,9,10,11,12,15,19,20,46,47,48] [(10,20)] (hk 3 (al:=[(.fp (Bm st)),(.int .i64 ((B9 (C5 st (nth (Aw (Ae b a) (Ae a b)) i)) (Ae a b))))]) I3 ((Je st (B9 (C5 st (nth (Aw (Ae b a) (Ae a b)) i)) (Ae a b)).toNat (by omega) (hi.2 _ (by omega))).of_args (ImpL.cons Imp.refl (ImpL.cons (Imp.of_eq (congrArg (AV.int .i64) (L6 hfo.1))) ImpL.nil)))<|hk0) v0 c0 ?_
      refine C2 [] [3,9,10,11,12,19,23,46,47,48] [] (hk 1 Q10 (Q5i st)<|hk 6 X20 (X5b st.kind (((nth st.all ((nth (Aw (Ae b a) (Ae a b)) i).toNat)).1).evr) (((nth st.all ((B9 (C5 st (nth (Aw (Ae b a) (Ae a b)) i)) (Ae a b)).toNat)).1).evr) (by omega) (by omega))<|hk0) v0 c0 ?_
      refine Ap ?_
      refine Av (CS:=[(2,(-9223372036854775808≤((Gb st.kind (((nth st.all ((nth (Aw (Ae b a) (Ae a b)) i).toNat)).1).evr) (((nth st.all ((B9 (C5 st (nth (Aw (Ae b a) (Ae a b)) i)) (Ae a b)).toNat)).1).evr)).1)+1∧((Gb st.kind (((nth st.all ((nth (Aw (Ae b a) (Ae a b)) i).toNat)).1).evr) (((nth st.all ((B9 (C5 st (nth (Aw (Ae b a) (Ae a b)) i)) (Ae a b)).toNat)).1).evr)).1)+1≤9223372036854775807)),(3,(0≤((Gb st.kind (((nth st.all ((nth (Aw (Ae b a) (Ae a b)) i).toNat)).1).evr) (((nth st.all ((B9 (C5 st (nth (Aw (Ae b a) (Ae a b)) i)) (Ae a b)).toNat)).1).evr)).1)+1∧(((Gb st.kind (((nth st.all ((nth (Aw (Ae b a) (Ae a b)) i).toNat)).1).evr) (((nth st.all ((B9 (C5 st (nth (Aw (Ae b a) (Ae a b)) i)) (Ae a b)).toNat)).1).evr)).1)+1).toNat < [4,5,3].length))]) 0 [] [3,9,10,11,12,19,46,47,48] [] (hk 0 X2z X06<|hk0) v0 (by refine cc _ ?_<|cc _ ?_ c0<;>(intros;simp_all;omega)) ?_
      refine Af [] [3,9,10,11,12,46,47,48] [] hk0 v0 (cc 3 (p:=((((((Aw (Ae b a) (Ae a b)).take i).map (Bs Ab st (Ae b a) (Ae a b))).map A3).length+1)*24≤140737488355328)) (by(simp;omega))<|c0) ?_
      refine Bt ?_
      refine Ap ?_
      refine Av 0 [] [3,9,10,11,12,46,47,48] [] hk0 v0 (cc 0 (p:=(-9223372036854775808≤(i:Int)+1∧(i:Int)+1≤9223372036854775807)) (by omega)<|c0) ?_
      refine⟨by kernel_rfl,_,?_,i+1,?_,(Eq.trans (b:=(⟨[(3,(.fp (.agg [(.fp (Bm st))]))),(9,(Ag (Ae b a))),(10,(Ag (Ae a b))),(11,(.fp (.agg [(.fp (A4 st))]))),(12,(.own 2)),(46,(Ag (Aw (Ae b a) (Ae a b)))),(47,(.int .i64 (((Aw (Ae b a) (Ae a b)).length:Int)))),(48,(.int .i64 ((i:Int)+1)))],[(2,(.grow (((((Aw (Ae b a) (Ae a b)).take i).map (Bs Ab st (Ae b a) (Ae a b))).map A3)++([(.agg [(.int .i64 (nth [4,5,3] ((((Gb st.kind (((nth st.all ((nth (Aw (Ae b a) (Ae a b)) i).toNat)).1).evr) (((nth st.all ((B9 (C5 st (nth (Aw (Ae b a) (Ae a b)) i)) (Ae a b)).toNat)).1).evr)).1)+1).toNat))),(.int .i64 (nth (Aw (Ae b a) (Ae a b)) i)),(.int .i64 ((B9 (C5 st (nth (Aw (Ae b a) (Ae a b)) i)) (Ae a b))))])]:List AV)) 66 3))],3⟩:St)) (by kernel_rfl) (by rw[M9 (x:=(nth [4,5,3] ((Gb st.kind (nth st.all (nth (Aw (Ae b a) (Ae a b)) i).toNat).1.evr (nth st.all (B9 (C5 st (nth (Aw (Ae b a) (Ae a b)) i)) (Ae a b)).toNat).1.evr).1+1).toNat,(nth (Aw (Ae b a) (Ae a b)) i),(B9 (C5 st (nth (Aw (Ae b a) (Ae a b)) i)) (Ae a b)))) (f:=(Bs Ab st (Ae b a) (Ae a b))) (by omega) (by unfold Bs Ob;rw[if_pos c4,if_pos c5];rfl)]<;>kernel_rfl)),rfl⟩
      ·omega
      ·omega
     ·refine Ai ?_
      refine Af [] [3,9,10,11,12,46,47,48] [] hk0 v0 (cc 3 (p:=((((((Aw (Ae b a) (Ae a b)).take i).map (Bs Ab st (Ae b a) (Ae a b))).map A3).length+1)*24≤140737488355328)) (by(simp;omega))<|c0) ?_
      refine Bt ?_
      refine Ap ?_
      refine Av 0 [] [3,9,10,11,12,46,47,48] [] hk0 v0 (cc 0 (p:=(-9223372036854775808≤(i:Int)+1∧(i:Int)+1≤9223372036854775807)) (by omega)<|c0) ?_
      refine⟨by kernel_rfl,_,?_,i+1,?_,(Eq.trans (b:=(⟨[(3,(.fp (.agg [(.fp (Bm st))]))),(9,(Ag (Ae b a))),(10,(Ag (Ae a b))),(11,(.fp (.agg [(.fp (A4 st))]))),(12,(.own 2)),(46,(Ag (Aw (Ae b a) (Ae a b)))),(47,(.int .i64 (((Aw (Ae b a) (Ae a b)).length:Int)))),(48,(.int .i64 ((i:Int)+1)))],[(2,(.grow (((((Aw (Ae b a) (Ae a b)).take i).map (Bs Ab st (Ae b a) (Ae a b))).map A3)++([(.agg [(.int .i64 1),(.int .i64 (nth (Aw (Ae b a) (Ae a b)) i)),(.int .i64 ((B9 (C5 st (nth (Aw (Ae b a) (Ae a b)) i)) (Ae a b))))])]:List AV)) 66 3))],3⟩:St)) (by kernel_rfl) (by rw[M9 (x:=(1,(nth (Aw (Ae b a) (Ae a b)) i),(B9 (C5 st (nth (Aw (Ae b a) (Ae a b)) i)) (Ae a b)))) (f:=(Bs Ab st (Ae b a) (Ae a b))) (by omega) (by unfold Bs Ob;rw[if_pos c4,if_neg c5])]<;>kernel_rfl)),rfl⟩
      ·omega
      ·omega
    ·refine Ai ?_
     refine Aa [] [3,9,10,11,12,14,18,19,46,47,48] ?_
     refine Ad ?_
     refine Af [] [3,9,10,11,12,14,19,46,47,48] [] (hk 2 (al:=[(Ag (Ae b a)),(.int .i64 (-1)),(.fn 82 [] [(.fp (.agg [(.fp (Bm st))])),(.fp (Ar ((nth st.all ((nth (Aw (Ae b a) (Ae a b)) i).toNat)).1)))])]) Ud ((T2 (Ae b a) (.fn 82 [] [(.fp (.agg [(.fp (Bm st))])),(.fp (Ar ((nth st.all ((nth (Aw (Ae b a) (Ae a b)) i).toNat)).1)))]) (C5 st (nth (Aw (Ae b a) (Ae a b)) i)) (by omega) (fun j hj=>Zp st hi (nth (Aw (Ae b a) (Ae a b)) i) _ (hcr j hj))).of_args (ImpL.cons Imp.refl (ImpL.cons Imp.refl (ImpL.cons (Imp.clo (by kernel_rfl)) ImpL.nil))))<|hk0) v0 c0 ?_
     refine Aa [] [3,9,10,11,12,14,19,46,47,48,108] ?_
     refine A6 (p:=(B9 (C5 st (nth (Aw (Ae b a) (Ae a b)) i)) (Ae b a)) < 0) (by kernel_rfl) (fun c6=>?_) (fun c6=>?_)
     ·refine Aa [] [3,9,10,11,12,14,19,46,47,48] ?_
      refine Ap ?_
      refine Av 0 [] [3,9,10,11,12,19,46,47,48] [] (hk 2 (al:=[(Ag (Ae b a)),(.int .i64 (-1)),(.fn 87 [] [(.fp (.agg [(.fp (Bm st))])),(.fp (.agg [(.fp (A4 st))])),(.fp (.agg [(.int .i64 (nth (Aw (Ae b a) (Ae a b)) i))]))])]) Ud ((T2 (Ae b a) (.fn 87 [] [(.fp (.agg [(.fp (Bm st))])),(.fp (.agg [(.fp (A4 st))])),(.fp (.agg [(.int .i64 (nth (Aw (Ae b a) (Ae a b)) i))]))]) (G2 Ab st (nth (Aw (Ae b a) (Ae a b)) i)) (by omega) (fun j hj=>Q9p st hi (nth (Aw (Ae b a) (Ae a b)) i) _ (hcr j hj))).of_args (ImpL.cons Imp.refl (ImpL.cons Imp.refl (ImpL.cons (Imp.clo (by kernel_rfl)) ImpL.nil))))<|hk0) v0 c0 ?_
      refine Ad ?_
      refine Aa [] [3,9,10,11,12,19,46,47,48,116] ?_
      refine A6 (p:=(B9 (G2 Ab st (nth (Aw (Ae b a) (Ae a b)) i)) (Ae b a)) < 0) (by kernel_rfl) (fun c7=>?_) (fun c7=>?_)
      ·refine Ap ?_
       refine Ey [] [3,9,10,11,12,19,46,47,48] ?_
       refine Ap ?_
       refine Av 0 [] [3,9,10,11,12,46,47,48] [] hk0 v0 (cc 3 (p:=((((((Aw (Ae b a) (Ae a b)).take i).map (Bs Ab st (Ae b a) (Ae a b))).map A3).length+1)*24≤140737488355328)) (by(simp;omega))<|c0) ?_
       refine Ap ?_
       refine Av 0 [] [3,9,10,11,12,46,47,48] [] hk0 v0 (cc 0 (p:=(-9223372036854775808≤(i:Int)+1∧(i:Int)+1≤9223372036854775807)) (by omega)<|c0) ?_
       refine⟨by kernel_rfl,_,?_,i+1,?_,(Eq.trans (b:=(⟨[(3,(.fp (.agg [(.fp (Bm st))]))),(9,(Ag (Ae b a))),(10,(Ag (Ae a b))),(11,(.fp (.agg [(.fp (A4 st))]))),(12,(.own 2)),(46,(Ag (Aw (Ae b a) (Ae a b)))),(47,(.int .i64 (((Aw (Ae b a) (Ae a b)).length:Int)))),(48,(.int .i64 ((i:Int)+1)))],[(2,(.grow (((((Aw (Ae b a) (Ae a b)).take i).map (Bs Ab st (Ae b a) (Ae a b))).map A3)++([(.agg [(.int .i64 2),(.int .i64 (nth (Aw (Ae b a) (Ae a b)) i)),(.int .i64 ((B9 (G2 Ab st (nth (Aw (Ae b a) (Ae a b)) i)) (Ae b a))))])]:List AV)) 66 3))],3⟩:St)) (by kernel_rfl) (by rw[M9 (x:=(2,(nth (Aw (Ae b a) (Ae a b)) i),(B9 (G2 Ab st (nth (Aw (Ae b a) (Ae a b)) i)) (Ae b a)))) (f:=(Bs Ab st (Ae b a) (Ae a b))) (by omega) (by unfold Bs goS;rw[if_neg c4,if_neg (by omega),if_neg (by omega)])]<;>kernel_rfl)),rfl⟩
       ·omega
       ·omega
      ·refine Ai ?_
       refine Ap ?_
       refine Av 0 [] [3,9,10,11,12,46,47,48] [] hk0 v0 (cc 3 (p:=((((((Aw (Ae b a) (Ae a b)).take i).map (Bs Ab st (Ae b a) (Ae a b))).map A3).length+1)*24≤140737488355328)) (by(simp;omega))<|c0) ?_
       refine Ap ?_
       refine Av 0 [] [3,9,10,11,12,46,47,48] [] hk0 v0 (cc 0 (p:=(-9223372036854775808≤(i:Int)+1∧(i:Int)+1≤9223372036854775807)) (by omega)<|c0) ?_
       refine⟨by kernel_rfl,_,?_,i+1,?_,(Eq.trans (b:=(⟨[(3,(.fp (.agg [(.fp (Bm st))]))),(9,(Ag (Ae b a))),(10,(Ag (Ae a b))),(11,(.fp (.agg [(.fp (A4 st))]))),(12,(.own 2)),(46,(Ag (Aw (Ae b a) (Ae a b)))),(47,(.int .i64 (((Aw (Ae b a) (Ae a b)).length:Int)))),(48,(.int .i64 ((i:Int)+1)))],[(2,(.grow (((((Aw (Ae b a) (Ae a b)).take i).map (Bs Ab st (Ae b a) (Ae a b))).map A3)++([(.agg [(.int .i64 7),(.int .i64 (nth (Aw (Ae b a) (Ae a b)) i)),(.int .i64 ((B9 (G2 Ab st (nth (Aw (Ae b a) (Ae a b)) i)) (Ae b a))))])]:List AV)) 66 3))],3⟩:St)) (by kernel_rfl) (by rw[M9 (x:=(7,(nth (Aw (Ae b a) (Ae a b)) i),(B9 (G2 Ab st (nth (Aw (Ae b a) (Ae a b)) i)) (Ae b a)))) (f:=(Bs Ab st (Ae b a) (Ae a b))) (by omega) (by unfold Bs goS;rw[if_neg c4,if_neg (by omega),if_pos (by omega)])]<;>kernel_rfl)),rfl⟩
       ·omega
       ·omega
     ·refine Ai ?_
      refine Ad ?_
      refine Aa [] [3,9,10,11,12,19,46,47,48,116] ?_
      refine A6 (p:=(B9 (C5 st (nth (Aw (Ae b a) (Ae a b)) i)) (Ae b a)) < 0) (by kernel_rfl) (fun c8=>?_) (fun c8=>?_)
      ·exfalso;omega
      ·refine Ai ?_
       refine Ap ?_
       refine Av 0 [] [3,9,10,11,12,46,47,48] [] hk0 v0 (cc 3 (p:=((((((Aw (Ae b a) (Ae a b)).take i).map (Bs Ab st (Ae b a) (Ae a b))).map A3).length+1)*24≤140737488355328)) (by(simp;omega))<|c0) ?_
       refine Ap ?_
       refine Av 0 [] [3,9,10,11,12,46,47,48] [] hk0 v0 (cc 0 (p:=(-9223372036854775808≤(i:Int)+1∧(i:Int)+1≤9223372036854775807)) (by omega)<|c0) ?_
       refine⟨by kernel_rfl,_,?_,i+1,?_,(Eq.trans (b:=(⟨[(3,(.fp (.agg [(.fp (Bm st))]))),(9,(Ag (Ae b a))),(10,(Ag (Ae a b))),(11,(.fp (.agg [(.fp (A4 st))]))),(12,(.own 2)),(46,(Ag (Aw (Ae b a) (Ae a b)))),(47,(.int .i64 (((Aw (Ae b a) (Ae a b)).length:Int)))),(48,(.int .i64 ((i:Int)+1)))],[(2,(.grow (((((Aw (Ae b a) (Ae a b)).take i).map (Bs Ab st (Ae b a) (Ae a b))).map A3)++([(.agg [(.int .i64 6),(.int .i64 (nth (Aw (Ae b a) (Ae a b)) i)),(.int .i64 ((B9 (C5 st (nth (Aw (Ae b a) (Ae a b)) i)) (Ae b a))))])]:List AV)) 66 3))],3⟩:St)) (by kernel_rfl) (by rw[M9 (x:=(6,(nth (Aw (Ae b a) (Ae a b)) i),(B9 (C5 st (nth (Aw (Ae b a) (Ae a b)) i)) (Ae b a)))) (f:=(Bs Ab st (Ae b a) (Ae a b))) (by omega) (by unfold Bs goS;rw[if_neg c4,if_pos (by omega)])]<;>kernel_rfl)),rfl⟩
       ·omega
       ·omega
   ·refine Bt ?_
    refine Aa [] [6,7] ?_
    refine Ah ?_
    refine RK wR [(.row 3 ((((Aw (Ae b a) (Ae a b)).take i).map (Bs Ab st (Ae b a) (Ae a b))).map A3).length (fun ix=>((((Aw (Ae b a) (Ae a b)).take i).map (Bs Ab st (Ae b a) (Ae a b))).map A3).getD ix Bp)),(.int .i64 0)] ?_
    rw[show i=(Aw (Ae b a) (Ae a b)).length from by omega,List.take_length]
    simp only[An]
    rw[show Al Ab st a b=((Aw (Ae b a) (Ae a b)).map (Bs Ab st (Ae b a) (Ae a b)),0) from by rw[Jg hra hrb];rfl]
    exact(Imp.tups (ImpL.cons (Imp.list (f:=A3) (List.length_map _)) (ImpL.cons Imp.refl ImpL.nil))).same
theorem V3 (a : List Int) (l : List Bc) (ha : a.length ≤ 2097152) (hl : l.length ≤ 2097152) :
  FnV Tryz.prog 29 [(Ag a),(Ac 3 A3 l)] (Ag (Aj a l)):=by
 refine A5 [.tmp 4] Tryz.func29 rfl Tryz.ntmps29 rfl rfl (fun B F hF=>?_)
 refine Aa [] [0,1] ?_
 refine Af [] [1,5] [] (hk 1 Qo (Qc a (by omega))<|hk0) v0 c0 ?_
 refine Ad ?_
 refine Aa [] [5,10,11,12] ?_
 refine A1 ?_
 refine Bz (fun g y=>∃(i:Nat),i≤l.length∧y=⟨[(5,(Ag (Aj a (l.take i)))),(10,(Ac 3 A3 l)),(11,(.int .i64 ((l.length:Int)))),(12,(.int .i64 ((i:Int))))],[],0⟩∧g=l.length-i) [5,10,11,12] 0 _ (by omega) ⟨0,(by omega),(by kernel_rfl),rfl⟩ ?_
 rintro g1 y1 ⟨i,f1_1,rfl,rfl⟩
 have hal:=Q6 a (l.take i)
 have htl:=List.length_take_le i l
 refine Aa [] [5,10,11,12,13] ?_
 refine Ad ?_
 refine A6 (p:=(i:Int) < (l.length:Int)) (by kernel_rfl) (fun c1=>?_) (fun c1=>?_)
 ·refine Ai ?_
  refine Ad ?_
  refine A1 ?_
  refine Af [] [5,7,10,11,12] [] hk0 v0 (cc 0 (p:=(0≤(i:Int)∧i < l.length)) (by omega)<|c0) ?_
  refine Af [] [5,7,10,11,12,17] [(0,7)] hk0 v0 c0 ?_
  refine A1 ?_
  refine D0 (fun y=>∃(v:Bool),v=Cs (nth l i).1∧y=⟨[(5,(Ag (Aj a (l.take i)))),(7,(.fp (.agg [(.int .i64 ((nth l i).1)),(.int .i64 ((nth l i).2.1)),(.int .i64 ((nth l i).2.2))]))),(10,(Ac 3 A3 l)),(11,(.int .i64 ((l.length:Int)))),(12,(.int .i64 ((i:Int)))),(17,(.int .i64 ((nth l i).1))),(18,(.bool v))],[],1⟩) [5,7,10,11,12,17,18] 1 (by omega) ?_ ?_
  ·refine Aa [] [5,7,10,11,12,17,18] ?_
   refine A6 (p:=((nth l i).1)=1) (by kernel_rfl) (fun c2=>?_) (fun c2=>?_)
   ·refine Ai ?_
    refine⟨by kernel_rfl,(decide (((nth l i).1)=1)),?_,(by kernel_rfl)⟩
    unfold Cs
    simp_all
   ·refine Aa [] [5,7,10,11,12,17,18] ?_
    refine A6 (p:=((nth l i).1)=3) (by kernel_rfl) (fun c3=>?_) (fun c3=>?_)
    ·refine Ai ?_
     refine⟨by kernel_rfl,(decide (((nth l i).1)=3)),?_,(by kernel_rfl)⟩
     unfold Cs
     simp_all
    ·refine Aa [] [5,7,10,11,12,17,18] ?_
     refine A6 (p:=((nth l i).1)=4) (by kernel_rfl) (fun c4=>?_) (fun c4=>?_)
     ·refine Ai ?_
      refine⟨by kernel_rfl,(decide (((nth l i).1)=4)),?_,(by kernel_rfl)⟩
      unfold Cs
      simp_all
     ·refine Ap ?_
      refine Ey [] [5,7,10,11,12,17,18] ?_
      refine⟨by kernel_rfl,(decide (((nth l i).1)=5)),?_,(by kernel_rfl)⟩
      unfold Cs
      simp_all
  ·rintro y1 ⟨v,jv,rfl⟩
   refine A8 (q:=v) (by kernel_rfl) (fun c5=>?_) (fun c5=>?_)
   ·try simp only[Ao] at c5
    refine Ap ?_
    refine Av 0 [] [5,10,11,12] [(4,26)] (hk 4 Uh (Tt (Aj a (l.take i)) [(nth l i).2.1] (by omega) (by first|omega|simp))<|hk0) (vk 4 26 (b:=(Ag [(nth l i).2.1])) (Imp.list (f:=AV.int .i64) rfl)<|v0) c0 ?_
    refine Ap ?_
    refine Av 0 [] [5,10,11,12] [] hk0 v0 (cc 0 (p:=(-9223372036854775808≤(i:Int)+1∧(i:Int)+1≤9223372036854775807)) (by omega)<|c0) ?_
    refine⟨by kernel_rfl,_,?_,i+1,?_,(Eq.trans (b:=(⟨[(5,(Ag (Aw (Aj a (l.take i)) [(nth l i).2.1]))),(10,(Ac 3 A3 l)),(11,(.int .i64 ((l.length:Int)))),(12,(.int .i64 ((i:Int)+1)))],[],0⟩:St)) (by kernel_rfl) (by rw[Vh (by omega),Gv,if_pos (by rw[←jv];exact c5)]<;>kernel_rfl)),rfl⟩
    ·omega
    ·omega
   ·try simp only[Ao] at c5
    refine D0 (fun y=>∃(u:Bool),u=H5 (nth l i).1∧y=⟨[(5,(Ag (Aj a (l.take i)))),(7,(.fp (.agg [(.int .i64 ((nth l i).1)),(.int .i64 ((nth l i).2.1)),(.int .i64 ((nth l i).2.2))]))),(10,(Ac 3 A3 l)),(11,(.int .i64 ((l.length:Int)))),(12,(.int .i64 ((i:Int)))),(28,(.bool u))],[],1⟩) [5,7,10,11,12,28] 1 (by omega) ?_ ?_
    ·refine Aa [] [5,7,10,11,12,17,28] ?_
     refine A6 (p:=((nth l i).1)=2) (by kernel_rfl) (fun c6=>?_) (fun c6=>?_)
     ·refine Ai ?_
      refine⟨by kernel_rfl,(decide (((nth l i).1)=2)),?_,(by kernel_rfl)⟩
      unfold H5
      simp_all
     ·refine Aa [] [5,7,10,11,12,17,28] ?_
      refine A6 (p:=((nth l i).1)=6) (by kernel_rfl) (fun c7=>?_) (fun c7=>?_)
      ·refine Ai ?_
       refine⟨by kernel_rfl,(decide (((nth l i).1)=6)),?_,(by kernel_rfl)⟩
       unfold H5
       simp_all
      ·refine Ap ?_
       refine Ey [] [5,7,10,11,12,28] ?_
       refine⟨by kernel_rfl,(decide (((nth l i).1)=7)),?_,(by kernel_rfl)⟩
       unfold H5
       simp_all
    ·rintro y2 ⟨u,ju,rfl⟩
     refine A8 (q:=u) (by kernel_rfl) (fun c8=>?_) (fun c8=>?_)
     ·try simp only[Ao] at c8
      refine Ap ?_
      refine Av 0 [] [5,10,11,12] [(4,35)] (hk 4 N7 (N1 (Aj a (l.take i)) [(nth l i).2.1] (by omega) (by first|omega|simp))<|hk0) (vk 4 35 (b:=(Ag [(nth l i).2.1])) (Imp.list (f:=AV.int .i64) rfl)<|v0) c0 ?_
      refine Ap ?_
      refine Av 0 [] [5,10,11,12] [] hk0 v0 (cc 0 (p:=(-9223372036854775808≤(i:Int)+1∧(i:Int)+1≤9223372036854775807)) (by omega)<|c0) ?_
      refine⟨by kernel_rfl,_,?_,i+1,?_,(Eq.trans (b:=(⟨[(5,(Ag (Ae (Aj a (l.take i)) [(nth l i).2.1]))),(10,(Ac 3 A3 l)),(11,(.int .i64 ((l.length:Int)))),(12,(.int .i64 ((i:Int)+1)))],[],0⟩:St)) (by kernel_rfl) (by rw[Vh (by omega),Gv,if_neg (by rw[←jv,c5];simp),if_pos (by rw[←ju];exact c8)]<;>kernel_rfl)),rfl⟩
      ·omega
      ·omega
     ·try simp only[Ao] at c8
      refine Ai ?_
      refine Ap ?_
      refine Av 0 [] [5,10,11,12] [] hk0 v0 (cc 0 (p:=(-9223372036854775808≤(i:Int)+1∧(i:Int)+1≤9223372036854775807)) (by omega)<|c0) ?_
      refine⟨by kernel_rfl,_,?_,i+1,?_,(Eq.trans (b:=(⟨[(5,(Ag (Aj a (l.take i)))),(10,(Ac 3 A3 l)),(11,(.int .i64 ((l.length:Int)))),(12,(.int .i64 ((i:Int)+1)))],[],0⟩:St)) (by kernel_rfl) (by rw[Vh (by omega),Gv,if_neg (by rw[←jv,c5];simp),if_neg (by rw[←ju,c8];simp)]<;>kernel_rfl)),rfl⟩
      ·omega
      ·omega
 ·refine Bt ?_
  refine Aa [] [4] ?_
  refine Ah ?_
  refine RK wR [(Ag (Aj a (l.take i)))] ?_
  exact Same.of_eq (by simp only[An];rw[show i=l.length from by omega,List.take_length])
end Sv
end
section
open Go Go.RowKit
namespace Sv
attribute [local irreducible] SW SO Bn
set_option maxHeartbeats 400000
set_option maxRecDepth 100000
theorem X3g:Au Tryz.prog 25:=Ay Tryz.func25 (by kernel_rfl) rfl
theorem Q6d {x y:Bc} (h1:x.1=y.1) (h2:x.2.1=y.2.1) (h3:x.2.2=y.2.2):x=y:=Prod.ext h1 (Prod.ext h2 h3)
theorem Y8 {a:List Bc} {i:Nat} (h:i < a.length):nth a i=a[i]:=by simp[nth,h]
theorem Q6y {a b:List Bc} (hl:a.length=b.length) (h:∀j,j < a.length→nth a j=nth b j):decide (a=b)=true:=decide_eq_true (List.ext_getElem hl fun j h1 h2=>by
 have:=h j h1
 rwa [Y8 h1,Y8 h2] at this)
theorem Q6z {a b:List Bc} {i:Nat} (h:¬nth a i=nth b i):decide (a=b)=false:=decide_eq_false fun e=>h (by rw[e])
theorem Q60 {a b:List Bc} (h:¬a.length=b.length):decide (a=b)=false:=decide_eq_false fun e=>h (by rw[e])
theorem Q7w (a b : List Bc) (ha : a.length ≤ 4611686018427) :
  FnV Tryz.prog 25 [(Ac 3 A3 a),(Ac 3 A3 b)] (.bool (decide (a=b))):=by
 refine A5 [.tmp 4] Tryz.func25 rfl Tryz.ntmps25 rfl rfl (fun B F hF=>?_)
 refine Aa [] [0,1] ?_
 refine Ad ?_
 refine Aa [] [0,1,10] ?_
 refine Dt (p:=(a.length:Int)=(b.length:Int)) (by kernel_rfl) (fun c1=>?_) (fun c1=>?_)
 ·refine Aa [] [4] ?_
  refine Ah ?_
  refine RK wR [(.bool false)] ?_
  exact Same.of_eq (by rw[Q60 (by omega)];rfl)
 ·refine Ai ?_
  refine Ad ?_
  refine Aa [] [0,1,5] ?_
  refine A1 ?_
  refine Bz (fun g y=>∃(i:Nat),i≤a.length∧(∀j,j < i→nth a j=nth b j)∧y=⟨[(0,(Ac 3 A3 a)),(1,(Ac 3 A3 b)),(5,(.int .i64 ((i:Int))))],[],0⟩∧g=a.length-i) [0,1,5] 0 _ (by omega) ⟨0,(by omega),(by exact fun j hj=>by omega),(by kernel_rfl),rfl⟩ ?_
  rintro g1 y1 ⟨i,f1_1,f1_2,rfl,rfl⟩
  refine Ad ?_
  refine Aa [] [0,1,5,14] ?_
  refine A6 (p:=(i:Int) < (a.length:Int)) (by kernel_rfl) (fun c2=>?_) (fun c2=>?_)
  ·refine Ai ?_
   refine Ad ?_
   refine A1 ?_
   refine Ad ?_
   refine J4 (by kernel_rfl) (fun F1 hF1=>?_)
   refine De (fuel:=1) [] [0,1,2,3,4,5,6,7] [0,1,5,20,24] (hold (p:=(0≤(i:Int)∧i < a.length)∧(0≤(i:Int)∧i < b.length)) (by omega)) ?_
   refine Gx (fuel:=0) 8 (by kernel_rfl) ?_
   refine Dq (fuel:=0) 8 rfl ?_
   refine Ot (s':=[(0,(Ac 3 A3 a)),(1,(Ac 3 A3 b)),(5,(.int .i64 ((i:Int)))),(20,(.agg [(.int .i64 ((nth a i).1)),(.int .i64 ((nth a i).2.1)),(.int .i64 ((nth a i).2.2))])),(24,(.agg [(.int .i64 ((nth b i).1)),(.int .i64 ((nth b i).2.1)),(.int .i64 ((nth b i).2.2))])),(25,(.bool (!(decide ((nth a i).1=((nth b i).1))&&(decide ((nth a i).2.1=((nth b i).2.1))&&(decide ((nth a i).2.2=((nth b i).2.2))&&true))))))]) (.bool (!(decide ((nth a i).1=((nth b i).1))&&(decide ((nth a i).2.1=((nth b i).2.1))&&(decide ((nth a i).2.2=((nth b i).2.2))&&true))))) (by kernel_rfl) (Q6k (l:=[(.int .i64 ((nth a i).1)),(.int .i64 ((nth a i).2.1)),(.int .i64 ((nth a i).2.2))]) (m:=[(.int .i64 ((nth b i).1)),(.int .i64 ((nth b i).2.1)),(.int .i64 ((nth b i).2.2))]) (r:=decide ((nth a i).1=((nth b i).1))&&(decide ((nth a i).2.1=((nth b i).2.1))&&(decide ((nth a i).2.2=((nth b i).2.2))&&true))) (.inl (by kernel_rfl)) (.inl (by kernel_rfl)) (by kernel_rfl) (by kernel_rfl) (by kernel_rfl) (by kernel_rfl)) (by kernel_rfl) ?_
   refine B5 ⟨rfl,?_⟩
   refine Az [0,1,5,25] ?_
   refine Hd (by kernel_rfl) ?_
   refine A8 (q:=!(decide ((nth a i).1=((nth b i).1))&&(decide ((nth a i).2.1=((nth b i).2.1))&&(decide ((nth a i).2.2=((nth b i).2.2))&&true)))) (by kernel_rfl) (fun c3=>?_) (fun c3=>?_)
   ·try simp only[Ao] at c3
    refine Aa [] [4] ?_
    refine Ah ?_
    refine RK wR [(.bool false)] ?_
    exact Same.of_eq (by rw[Q6z (i:=i) (by intro e;rw[e] at c3;simp at c3)];rfl)
   ·try simp only[Ao] at c3
    refine Ai ?_
    refine Ap ?_
    refine Av 0 [] [0,1,5] [] hk0 v0 (cc 1 (p:=(-9223372036854775808≤(i:Int)+1∧(i:Int)+1≤9223372036854775807)) (by omega)<|c0) ?_
    refine⟨by kernel_rfl,_,?_,i+1,?_,?_,(by kernel_rfl),rfl⟩
    ·omega
    ·omega
    ·intro j hj
     by_cases h:j=i
     ·subst h;exact Q6d (by simp_all) (by simp_all) (by simp_all)
     ·exact f1_2 j (by omega)
  ·refine Bt ?_
   refine Aa [] [4] ?_
   refine Ah ?_
   refine RK wR [(.bool true)] ?_
   exact Same.of_eq (by rw[Q6y (by omega) (fun j hj=>f1_2 j (by omega))];rfl)
end Sv
end
section
open Go Go.RowKit
namespace Sv
attribute [local irreducible] SW SO Bn
set_option maxHeartbeats 1000000
set_option maxRecDepth 100000
end Sv
end
section
open Go Go.RowKit
namespace Sv
attribute [local irreducible] SW SO Bn
set_option maxHeartbeats 2000000
set_option maxRecDepth 100000
section
variable {r : List UInt8 → List UInt8 → Int} {u v : List UInt8}
end
end Sv
end
section
open Go Go.RowKit
namespace Sv
attribute [local irreducible] SW SO Bn
set_option maxHeartbeats 1000000
set_option maxRecDepth 100000
theorem I2 {s:List UInt8} (h:¬Cg s=0):Cv s=([],[],[]):=by unfold Cv;rw[if_neg h]
end Sv
end
section
open Go Go.RowKit
namespace Sv
theorem X5d {x:Int} {l:List Int}:x∈Lib.compact l↔x∈l:=by
  constructor
  · intro h
    unfold Lib.compact Lib.compactUpTo at h
    obtain⟨i,hi,rfl⟩:=List.mem_map.1 h
    have hi:=(List.mem_filter.1 hi).1
    rw[List.mem_range] at hi
    simp[getElem!_pos,hi]
  · intro h
    obtain⟨i,hi,rfl⟩:=List.getElem_of_mem h
    unfold Lib.compact Lib.compactUpTo
    induction i with
    |zero=>exact List.mem_map.2 ⟨0,List.mem_filter.2 ⟨by simpa using hi,Lib.keeps_lt_one _ 0 (by omega)⟩,by simp[hi]⟩
    |succ i ih =>
      cases hk:Lib.keeps l.toArray (i+1) with
      |true=>exact List.mem_map.2 ⟨i+1,List.mem_filter.2 ⟨by simpa using hi,hk⟩,by simp[hi]⟩
      |false =>
        have e:l[i+1]=l[i]:=by
          unfold Lib.keeps at hk
          simp at hk
          have hi':i < l.length:=by omega
          simpa [hi,hi'] using hk
        rw[e]
        exact ih (by omega) (List.getElem_mem _)
def Wf (k:Int) (d:DepT) (op:Int) (ev:List UInt8):Bool:=if d.op=0 then true else if op=0 then false else (Ab k d.op d.evr op ev).1
theorem X2e {k:Int} {d:DepT} {o:OfferT}:K0 Ab k d o=Wf k d o.op o.evr:=by
  unfold K0 Wf
  by_cases h:d.op=0
  · rw[if_pos (.inl h),if_pos h,decide_eq_true h]
  · by_cases q:o.op=0
    · rw[if_pos (.inr q),if_neg h,if_pos q,decide_eq_false h]
    · rw[if_neg (by simp[h,q]),if_neg h,if_neg q]
theorem Xo {i:Nat} {p:PkgT} {q:List UInt8 × OfferT} (h:q∈H0 i p):q.2.id=(i:Int):=by
  unfold H0 Er E8 at h
  rw[List.take_length,List.take_length] at h
  rcases List.mem_append.1 h with h|h
  · rcases List.mem_cons.1 h with rfl|h
    · rfl
    · obtain⟨d,_,rfl⟩:=List.mem_map.1 h;rfl
  · obtain⟨f,_,rfl⟩:=List.mem_map.1 h;rfl
theorem Q92 {st:PoolT} {d:DepT} {own:Bool} {x:Int}:x∈F6 Ab st d own↔∃i,i < st.all.length∧x=(i:Int)∧∃q∈H0 i (nth st.all i).1,q.1=d.name∧Ix Ab st d own q.2=true:=by
  unfold F6
  rw[X5d]
  unfold Dw
  rw[List.take_length]
  constructor
  · intro h
    obtain⟨o,ho,rfl⟩:=List.mem_map.1 h
    obtain⟨h1,h2⟩:=List.mem_filter.1 ho
    unfold Cc at h1
    obtain⟨q,hq,rfl⟩:=List.mem_map.1 h1
    obtain⟨h3,h4⟩:=List.mem_filter.1 hq
    unfold Bo at h3
    obtain⟨i,hi,h5⟩:=List.mem_flatMap.1 h3
    exact⟨i,by simpa using hi,Xo h5,q,h5,by simpa using h4,h2⟩
  · rintro⟨i,hi,rfl,q,hq,h1,h2⟩
    refine List.mem_map.2 ⟨q.2,List.mem_filter.2 ⟨?_,h2⟩,Xo hq⟩
    unfold Cc
    refine List.mem_map.2 ⟨q,List.mem_filter.2 ⟨?_,by simp[h1]⟩,rfl⟩
    unfold Bo
    exact List.mem_flatMap.2 ⟨i,by simpa using hi,hq⟩
end Sv
end
section
open Go Go.RowKit
namespace Sv
attribute [local irreducible] SW SO Bn
set_option maxHeartbeats 1000000
set_option maxRecDepth 100000
end Sv
end
section
open Go Go.RowKit
namespace Sv
attribute [local irreducible] SW SO Bn
set_option maxHeartbeats 1000000
set_option maxRecDepth 100000
theorem Q12:Au Tryz.prog 30:=Ay Tryz.func30 (by kernel_rfl) rfl
theorem Xm (x : Bc) :
  FnV Tryz.prog 30 [(.agg [(.int .i64 x.1),(.int .i64 x.2.1),(.int .i64 x.2.2)])] (.bool (Cs x.1)):=by
 refine A5 [.tmp 2] Tryz.func30 rfl Tryz.ntmps30 rfl rfl (fun B F hF=>?_)
 refine Af [] [1] [(1,1)] hk0 v0 c0 ?_
 obtain⟨b1,hb1⟩:∃b,b=(decide (x.1=1)):=⟨_,rfl⟩
 obtain⟨b2,hb2⟩:∃b,b=(b1||(decide (x.1=3))):=⟨_,rfl⟩
 obtain⟨b3,hb3⟩:∃b,b=(b2||(decide (x.1=4))):=⟨_,rfl⟩
 refine Af (CS:=[(5,((!b1)=true→(!b1)=true)),(6,((!b1)=true→(!b1)=true)),(7,(b1=false→(!b1)=true)),(10,((!b2)=true→(!b2)=true)),(11,((!b2)=true→(!b2)=true)),(12,(b2=false→(!b2)=true)),(15,((!b3)=true→(!b3)=true)),(16,((!b3)=true→(!b3)=true)),(17,(b3=false→(!b3)=true))]) [7,8,9,12,13,14,17,18,19] [2] [] hk0 (vk 4 6 (a:=.bool (decide (x.1=1))) (b:=.bool b1) (Imp.of_eq (by rw[hb1]))<|vk 9 11 (a:=.bool (b1||(decide (x.1=3)))) (b:=.bool b2) (Imp.of_eq (by rw[hb2]))<|vk 14 16 (a:=.bool (b2||(decide (x.1=4)))) (b:=.bool b3) (Imp.of_eq (by rw[hb3]))<|v0) (by refine cc _ ?_<|cc _ ?_<|cc _ ?_<|cc _ ?_<|cc _ ?_<|cc _ ?_<|cc _ ?_<|cc _ ?_<|cc _ ?_ c0<;>simp) ?_
 refine Ah ?_
 refine RK wR [(.bool (b3||(decide (x.1=5))))] ?_
 subst hb3 hb2 hb1
 exact Same.of_eq (by simp only[An];unfold Cs;simp only[Bool.or_assoc])
end Sv
end
section
open Go Go.RowKit
namespace Sv
attribute [local irreducible] SW SO Bn
set_option maxHeartbeats 1000000
set_option maxRecDepth 100000
end Sv
end
section
open Go Go.RowKit
namespace Sv
section
variable {st : PoolT} {d : DepT} {s : List Int}
end
end Sv
end
section
open Go Go.RowKit
namespace Sv
section
variable {P : Program} {B : Bas} {w : World} {F F0 : Cx} {n : Nat} {φ : Phi} {σ : Nat → Value} {K : Exit → St → Prop} {x y : St} {ops : Array Oper}
theorem V4 {z:Value} {sz k:Nat} (h:z.cells.size=sz):(Builtin.zeroCells z.cells k).toList=(List.replicate k z).flatMap fun u=>u.cells.toList:=by
  have hl:((List.replicate k z).flatMap fun u=>u.cells.toList).length=k*sz:=by
    rw[Iz (sz:=sz) (fun u hu=>by rw[List.eq_of_mem_replicate hu];exact h),List.length_replicate]
  refine List.ext_getElem (by rw[Array.length_toList,size_zeroCells,h,hl]) fun q h1 h2=>?_
  rw[hl] at h2
  have hs : 0 < sz := by rcases Nat.eq_zero_or_pos sz with e | e; · subst e; omega
                         · exact e
  have hq:q % sz < sz:=Nat.mod_lt _ hs
  have hd:q / sz < k:=Nat.div_lt_of_lt_mul (by rw[Nat.mul_comm];exact h2)
  have hj:z.cells.toList[q % sz]? = some (z.cells[q % sz]'(by omega)):=by simp[h,hq]
  have:=Q1d (vs:=List.replicate k z) (sz:=sz) (i:=q / sz) (v:=z) (fun u hu=>by rw[List.eq_of_mem_replicate hu];exact h) (by simp[hd]) hj
  rw[show q / sz*sz+q % sz=q by rw[Nat.mul_comm];exact Nat.div_add_mod q sz,List.getElem?_eq_some_iff] at this
  obtain⟨_,this⟩:=this
  rw[this]
  simp[Builtin.zeroCells,h,hq]
theorem X7k {rest : List Oper} {t ta : TypeId} {X I : Operand} {d : Nat} {dst : Option Tmp} {ty ty' : TypeId} {ps ps' : String} {af af' : Array Edge} {g g' : Option (Nat × Bool)} {b e sz i : Nat} {k : IntKind} {es : List AV} {z : AV} {s1 s2 : Fr}
    (hg:Dh ops x.s g=true) (hX:evA x.s X=some (.own b)) (hI:evA x.s I=some (.int k (i:Int))) (hb:Bh b x.h=some (.grow es e sz)) (he:Fa P t=some e) (he2:Fa P ta=some e) (hs:tsz P e=some sz) (hi:i≤es.length)
    (hz:Ij P e=some z) (hz1:(Nat.beq (cellsOf z).length sz&&!Eo z&&ones (cellsOf z))=true)
    (hp:B6 n (some d) (.cond false (.str [])) x.s=some s1) (hg2:Dh ops s1 g'=true) (hp2:B6 n dst (.tup []) s1=some s2)
    (next:SO P n ops rest B F K ⟨s2,Ch b (.grow (es.take i++List.replicate (es.length-i) z) e sz) x.h,x.nx⟩) :
    SO P n ops (⟨some d,.slice t X (some I) none none,ty,ps,af,g⟩::⟨dst,.call { callee:=.builtin .clear,args := #[.tmp d],argTypes := #[ta] },ty',ps',af',g'⟩::rest) B F K x:=by
  intro φ σ w hx
  have v1:=hx.fr.ev _ _ hX
  have v2:=hx.fr.ev _ _ hI
  simp only[VR] at v1 v2
  obtain⟨v,vs,a1,a2,a3,a4⟩:=hx.rel.obj b _ hb
  rw[v1.1] at a1;have a1:=Option.some.inj a1
  obtain⟨zv,z1,z2⟩:=J9 (φ:=φ.fz) hz
  simp only[Bool.and_eq_true,Bool.not_eq_true'] at hz1
  obtain⟨⟨c1,c2⟩,c3⟩:=hz1
  have zc:=z2.cells c2
  have zl:zv.cells.size=sz:=by have:=zc.length;have:=Nat.eq_of_beq_eq_true c1;simp only[Array.length_toList] at *;omega
  have zo:=zc.ones c3
  have hlv:vs.length=es.length:=a3.length
  have hsz:∀u∈vs,u.cells.size=sz:=fun u hu=>(a4 u hu).1
  have hput:∀{q:Value},VR φ (.cond false (.str [])) q:=fun {q}=>by unfold VR;exact⟨fun q=>(by cases q),fun q=>(by cases q)⟩
  have hr:VRl φ.fz (es.take i++List.replicate (es.length-i) z) (vs.take i++List.replicate (es.length-i) zv):=by
    refine(a3.take i).append ?_
    generalize es.length-i=m
    induction m with
    |zero=>exact .nil
    |succ m ih=>rw[List.replicate_succ,List.replicate_succ];exact .cons z2 ih
  have h4:∀u∈vs.take i++List.replicate (es.length-i) zv,u.cells.size=sz∧∀c∈u.cells.toList,c.oneCell'=true:=by
    intro u hu
    rcases List.mem_append.1 hu with hu|hu
    · exact a4 u (List.mem_of_mem_take hu)
    · rw[List.eq_of_mem_replicate hu];exact⟨zl,zo⟩
  have hnl:(es.take i++List.replicate (es.length-i) z).length=es.length:=by rw[List.length_append,List.length_take,List.length_replicate];omega
  have hev:∀q,ev n (Ci σ (some d) q) (.tmp d)=q:=fun q=>by
    unfold B6 at hp
    obtain⟨h1,_⟩:=Dn hp
    have h1:d < n:=by simpa [Nat.blt_eq] using h1
    simp only[Ci,ev];rw[W2 h1,if_pos rfl]
  rcases a2.2 with⟨hv,hn⟩|⟨gb,cap,cur,hv,g1,g2,g3,g4,g5,g6⟩
  · have hi0:i=0:=by omega
    subst hi0
    rw[←a1] at hv
    refine Db (w':=w) (Df hx.fr hg) (v:=.slice none 0 0) ?_ ?_
    · have hb:=fun w=>Gz (P:=P) (isS:=true) (len:=0) (cap:=0) (i:=0) (j:=0) (m:=0) (lo:=some (ev n σ I)) (hi:=none) (mx:=none) (.inr ⟨k,by rw[v2]⟩) (.inl ⟨rfl,rfl⟩) (.inl ⟨rfl,rfl⟩) (Nat.le_refl _) (Nat.le_refl _) (Nat.le_refl _) w
      simp only[execOp,Instr.sliceAt,Instr.slice,Sem.run_bind,Sem.run_pure,run_underlying (D1 he),Result.andThen_ok,hv,hb,C3 hs,Option.map_some,Option.map_none]<;>(try split)<;>rfl
    · have hf1:=hx.fr.put hp (hput (q:=.slice none 0 0))
      refine Db (v:=.tuple #[]) (w':=w) (Df (x:=⟨s1,x.h,x.nx⟩) hf1 hg2) ?_ (next φ _ w ⟨hf1.put hp2 (by simp only[VR];exact⟨[],.nil,rfl⟩),?_,hx.dom,hx.old,hx.new,hx.base⟩)
      · simp[execOp,resolve,invoke,builtin,Builtin.clear_,hev,run_underlying (D1 he2),go_sem]
      · refine hx.rel.setO hb hx.rel.below (Nat.le_refl _) (fun _ _ _=>rfl) ?_ (fun _ h=>h)
        have he0:es=[]:=List.eq_nil_of_length_eq_zero hn
        subst he0
        exact hx.rel.obj b _ hb
  · have hv0:=hv
    rw[←a1] at hv
    have hbd:=fun w=>Gz (P:=P) (isS:=true) (len:=es.length) (cap:=cap) (i:=i) (j:=es.length) (m:=cap) (lo:=some (ev n σ I)) (hi:=none) (mx:=none) (.inr ⟨k,by rw[v2]⟩) (.inl ⟨rfl,rfl⟩) (.inl ⟨rfl,rfl⟩) hi g3 (Nat.le_refl _) w
    refine Db (w':=w) (Df hx.fr hg) (v:=.slice (some (if cap=i then ⟨gb,0,none⟩ else (⟨gb,0,none⟩:Addr).add (i*sz))) (es.length-i) (cap-i)) ?_ ?_
    · simp only[execOp,Instr.sliceAt,Instr.slice,Sem.run_bind,Sem.run_pure,run_underlying (D1 he),Result.andThen_ok,hv,hbd,C3 hs,Option.map_some,Option.map_none]<;>(try split)<;>rfl
    · have hf1:=hx.fr.put hp (hput (q:=.slice (some (if cap=i then ⟨gb,0,none⟩ else (⟨gb,0,none⟩:Addr).add (i*sz))) (es.length-i) (cap-i)))
      have hgi:img φ b (.grow es e sz) gb:=by simp only[img,v1.1,a1,Option.bind_some];rw[hv0];rfl
      by_cases hz0:es.length-i=0
      · refine Db (v:=.tuple #[]) (w':=w) (Df (x:=⟨s1,x.h,x.nx⟩) hf1 hg2) ?_ (next φ _ w ⟨hf1.put hp2 (by simp only[VR];exact⟨[],.nil,rfl⟩),?_,hx.dom,hx.old,hx.new,hx.base⟩)
        · simp[execOp,resolve,invoke,builtin,Builtin.clear_,hev,hz0,run_underlying (D1 he2),go_sem]
        · refine hx.rel.setO hb hx.rel.below (Nat.le_refl _) (fun _ _ _=>rfl) ?_ (fun _ h=>h)
          rw[hz0,List.replicate_zero,List.append_nil,List.take_of_length_le (by omega)]
          exact hx.rel.obj b _ hb
      · have hci:¬cap=i:=by omega
        have hfl:=Iz hsz
        have hzl:(Builtin.zeroCells zv.cells (es.length-i)).toList.length=(es.length-i)*sz:=by rw[Array.length_toList,size_zeroCells,zl]
        have hmul:i*sz+(es.length-i)*sz=es.length*sz:=by rw[←Nat.add_mul];congr 1;omega
        have hcap:es.length*sz≤cap*sz:=Nat.mul_le_mul_right sz g3
        have hrun:=run_storeCells_at P gb (i*sz) e (Builtin.zeroCells zv.cells (es.length-i)).toList 0 cur w g2 (by omega) (fun c hc=>by
          rw[V4 zl] at hc
          obtain⟨u,hu,hc⟩:=List.mem_flatMap.1 hc
          rw[List.eq_of_mem_replicate hu] at hc;exact zo c hc)
        rw[hzl,Nat.add_zero,hmul] at hrun
        obtain⟨C,hC⟩:∃C,cur.toList.take (i*sz)++(Builtin.zeroCells zv.cells (es.length-i)).toList++cur.toList.drop (es.length*sz)=C:=⟨_,rfl⟩
        rw[hC] at hrun
        have hA:((vs.take i).flatMap fun u=>u.cells.toList).length=i*sz:=by
          rw[Iz (fun u hu=>hsz u (List.mem_of_mem_take hu)),List.length_take,Nat.min_eq_left (by omega)]
        have hth:cur.toList.take (i*sz)=(vs.take i).flatMap fun u=>u.cells.toList:=by
          have:cur.toList.take (i*sz)=(cur.toList.take (es.length*sz)).take (i*sz):=by rw[List.take_take,Nat.min_eq_left (by omega)]
          rw[this,g6]
          conv=>lhs;rw[←List.take_append_drop i vs]
          rw[List.flatMap_append]
          exact List.take_left' hA
        have hflat:((vs.take i++List.replicate (es.length-i) zv).flatMap fun u=>u.cells.toList)=cur.toList.take (i*sz)++(Builtin.zeroCells zv.cells (es.length-i)).toList:=by
          rw[List.flatMap_append,hth,V4 zl]
        have hfll:((vs.take i++List.replicate (es.length-i) zv).flatMap fun u=>u.cells.toList).length=es.length*sz:=by
          rw[Iz (fun u hu=>(h4 u hu).1),List.length_append,List.length_take,List.length_replicate];congr 1;omega
        have hcl:C.length=cap*sz:=by
          have:cur.toList.length=cap*sz:=by rw[Array.length_toList];exact g5
          rw[←hC,←hflat,List.length_append,hfll,List.length_drop];omega
        have hat:At B φ (w.setRow gb C.toArray) b (.grow (es.take i++List.replicate (es.length-i) z) e sz):=by
          refine⟨_,vs.take i++List.replicate (es.length-i) zv,v1.1,?_,hr,h4⟩
          rw[hnl,a1,hv0]
          refine⟨hfll,.inr ⟨gb,cap,C.toArray,rfl,Nat.zero_le _,setRow_heap w gb cur _ e _ g2,g3,g4,by simpa using hcl,?_⟩⟩
          rw[List.toList_toArray,←hC,←hflat]
          exact List.take_left' hfll
        refine Db (v:=.tuple #[]) (w':=w.setRow gb C.toArray) (Df (x:=⟨s1,x.h,x.nx⟩) hf1 hg2) ?_ (next φ _ _ ⟨hf1.put hp2 (by simp only[VR];exact⟨[],.nil,rfl⟩),?_,hx.dom,hx.old,hx.new,hx.base⟩)
        · obtain⟨m,hm⟩:∃m,es.length-i=m+1:=⟨es.length-i-1,by omega⟩
          rw[hm] at hrun
          unfold Value.cells at hrun
          simp[execOp,resolve,invoke,builtin,Builtin.clear_,hev,hci,hm,run_underlying (D1 he2),z1,Eg,hrun,go_sem]
        · refine hx.rel.setO hb (hx.rel.below.to rfl rfl rfl ?_ fun q hq=>setRow_other w gb q _ ?_) ?_ (fun q _ hq=>setRow_other w gb q _ ?_) hat (fun k hk=>hk)
          · simp
          · rintro rfl;exact(hx.rel.gf b _ q hb hgi).1 hq
          · simp
          · rintro rfl;exact hq hgi
end
end Sv
end
section
open Go Go.RowKit
namespace Sv
def ofB (b:Int) (s:Bc):Bool:=decide (s.2.1=b)
def Cu (b:Int) (s:Bc):Bool:=(decide (s.1=6)||decide (s.1=7))&&decide (s.2.2=b)
def Cr (s:Bc):Bool:=decide (s.1=2)
def Dk (q:List Bc) (b:Int):List Bc:=q.filter (ofB b)++q.filter (Cu b)
def S1 (q:List Bc) (bs:List Int):List Bc:=bs.flatMap (Dk q)++q.filter Cr
def Oq (q:List Bc) (c:List Int):Prop:=(q.map fun x=>x.2.1).Nodup∧(∀s∈q,Cs s.1=true→s.2.1∈c)∧(∀s∈q,s.2.1∈c→Cs s.1=true)∧(∀s∈q,s.1=6∨s.1=7→s.2.2∈c)∧∀s∈q,Cs s.1=true∨H5 s.1=true
theorem K3 {s:Bc} (h:Cs s.1=true):¬s.1=6∧¬s.1=7∧¬s.1=2:=by
  unfold Cs at h
  simp only[Bool.or_eq_true,decide_eq_true_eq] at h
  omega
theorem X11 {s:Bc} (h:H5 s.1=true):s.1=2∨s.1=6∨s.1=7:=by
  unfold H5 at h
  simp only[Bool.or_eq_true,decide_eq_true_eq] at h
  exact h
theorem mem_done {q:List Bc} {b:Int} {s:Bc}:s∈Dk q b↔s∈q∧(ofB b s=true∨Cu b s=true):=by
  unfold Dk
  rw[List.mem_append,List.mem_filter,List.mem_filter]
  constructor
  · rintro (h|h)
    · exact⟨h.1,.inl h.2⟩
    · exact⟨h.1,.inr h.2⟩
  · rintro⟨h,k|k⟩
    · exact .inl ⟨h,k⟩
    · exact .inr ⟨h,k⟩
theorem Wq {q:List Bc} {c:List Int} (h:Oq q c):q.Nodup:=List.Pairwise.of_map (fun x=>x.2.1) (fun a b hab e=>hab (by rw[e])) h.1
theorem X4x {q:List Bc} {c:List Int} (h:Oq q c) {b:Int} (hb:b∈c):(Dk q b).Nodup:=by
  have hn:=Wq h
  unfold Dk
  rw[List.nodup_append]
  refine⟨hn.filter _,hn.filter _,fun x hx y hy e=>?_⟩
  subst e
  obtain⟨h1,h2⟩:=List.mem_filter.1 hx
  obtain⟨_,h3⟩:=List.mem_filter.1 hy
  have h2:x.2.1=b:=by unfold ofB at h2;simpa using h2
  have hc:=K3 (h.2.2.1 x h1 (by rw[h2];exact hb))
  unfold Cu at h3
  simp only[Bool.and_eq_true,Bool.or_eq_true,decide_eq_true_eq] at h3
  omega
theorem Q1c {q:List Bc} {c:List Int} (h:Oq q c):∀{bs:List Int},bs.Nodup→(∀b∈bs,b∈c)→(bs.flatMap (Dk q)).Nodup
  |[],_,_=>List.nodup_nil
  |b::bs,hn,hc=>by
    rw[List.nodup_cons] at hn
    rw[List.flatMap_cons,List.nodup_append]
    refine⟨X4x h (hc b (by simp)),Q1c h hn.2 fun x hx=>hc x (by simp[hx]),fun x hx y hy e=>?_⟩
    subst e
    obtain⟨b',hb',hy⟩:=List.mem_flatMap.1 hy
    have h1:=mem_done.1 hx
    have h2:=mem_done.1 hy
    have hbc:=hc b (by simp)
    have hbc':=hc b' (by simp[hb'])
    have ne:¬b=b':=fun e=>hn.1 (by rw[e];exact hb')
    have k1:x.2.1=b→Cs x.1=true:=fun e=>h.2.2.1 x h1.1 (by rw[e];exact hbc)
    have k2:x.2.1=b'→Cs x.1=true:=fun e=>h.2.2.1 x h1.1 (by rw[e];exact hbc')
    unfold ofB Cu at h1 h2
    simp only[Bool.and_eq_true,Bool.or_eq_true,decide_eq_true_eq] at h1 h2
    rcases h1.2 with a1|a1<;>rcases h2.2 with a2|a2
    · exact ne (a1.symm.trans a2)
    · have:=K3 (k1 a1);omega
    · have:=K3 (k2 a2);omega
    · exact ne (a1.2.symm.trans a2.2)
theorem Q8x {q:List Bc} {c bs:List Int} (h:Oq q c) (hb:bs.Perm c) (hc:c.Nodup):(S1 q bs).Perm q:=by
  have hn:=Wq h
  have hbn:bs.Nodup:=hb.nodup_iff.2 hc
  have hin:∀b∈bs,b∈c:=fun b k=>hb.mem_iff.1 k
  refine(List.perm_ext_iff_of_nodup ?_ hn).2 fun s=>?_
  · unfold S1
    rw[List.nodup_append]
    refine⟨Q1c h hbn hin,hn.filter _,fun x hx y hy e=>?_⟩
    subst e
    obtain⟨b,hb',hx⟩:=List.mem_flatMap.1 hx
    have h1:=mem_done.1 hx
    have h2:=(List.mem_filter.1 hy).2
    have k1:x.2.1=b→Cs x.1=true:=fun e=>h.2.2.1 x h1.1 (by rw[e];exact hin b hb')
    unfold ofB Cu at h1
    unfold Cr at h2
    simp only[Bool.and_eq_true,Bool.or_eq_true,decide_eq_true_eq] at h1 h2
    rcases h1.2 with a1|a1
    · have:=K3 (k1 a1);omega
    · omega
  · unfold S1
    rw[List.mem_append,List.mem_flatMap,List.mem_filter]
    constructor
    · rintro (⟨b,_,hx⟩|hx)
      · exact(mem_done.1 hx).1
      · exact hx.1
    · intro hs
      rcases h.2.2.2.2 s hs with k|k
      · refine .inl ⟨s.2.1,hb.mem_iff.2 (h.2.1 s hs k),mem_done.2 ⟨hs,.inl ?_⟩⟩
        unfold ofB;simp
      · rcases X11 k with k|k
        · exact .inr ⟨hs,by unfold Cr;simp[k]⟩
        · refine .inl ⟨s.2.2,hb.mem_iff.2 (h.2.2.2.1 s hs k),mem_done.2 ⟨hs,.inr ?_⟩⟩
          unfold Cu;simp[k]
theorem Q1g {p:Int→Bool} {l:List Int} (h:0≤B9 p l):B9 p l∈l:=by
  unfold B9 at h ⊢
  have:=L8 p l
  split at h
  · rename_i q
    rw[if_pos q,El (by omega)];exact List.getElem_mem _
  · omega
theorem Q6a (m:Int→Int→List UInt8→Int→List UInt8→Bool × Int) (st:PoolT) (a b:List Int):Oq (Cm (Bs m st) a b) (Ae b a):=by
  have hso:=M8 m st
  have key:∀s∈Cm (Bs m st) a b,∃i,s=Bs m st (Ae b a) (Ae a b) i:=fun s hs=>by
    obtain⟨i,_,rfl⟩:=List.mem_map.1 hs
    exact⟨i,rfl⟩
  refine⟨by rw[Q58 hso];exact Ng (M2 _ _),fun s hs h=>?_,fun s hs h=>?_,fun s hs h=>?_,fun s hs=>?_⟩<;>obtain⟨i,rfl⟩:=key s hs<;>have k:=hso (Ae b a) (Ae a b) i
  · rw[k.1]
    by_cases c:i∈Ae b a
    · exact c
    · rw[(k.2.2 c).1] at h;cases h
  · rw[k.1] at h;exact(k.2.1 h).1
  · by_cases c:i∈Ae b a
    · have:=K3 (k.2.1 c).1;omega
    · have e:Bs m st (Ae b a) (Ae a b) i=goS m st (Ae b a) i:=by unfold Bs;rw[if_neg c]
      rw[e] at h ⊢
      unfold goS at h ⊢
      split
      · rename_i q;exact Q1g q
      · rename_i q
        split
        · rename_i q2;exact Q1g q2
        · rename_i q2
          rw[if_neg q,if_neg q2] at h
          rcases h with h|h<;>simp at h
  · by_cases c:i∈Ae b a
    · exact .inl (k.2.1 c).1
    · exact .inr (k.2.2 c).2
end Sv
end
end Go.Proofs.YtlmloohlmlahfaaGreatDoor
