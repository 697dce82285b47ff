/- The texts Prov1, CompI, Prov2, Prov3, Prov4, Prov5, Prov6, Prov7, Prov8, Evr2, Evr3, Evr4, Evr5, Evr6, Ref7a, PoolP, Awake7, ProvP, SortI, IdsV, SetP, IdsM, Ref1, Evr7, DiffP, S39, Diff1 of the proof, joined. Each says at its theorems what it proves. -/
import Derived.Test.YtlfjokcbkopfeaaGreatDoorJ3
import Derived.Sort.OwnSortedInts
import Derived.Shelf.Slices.In.SortNone
set_option linter.unusedSimpArgs false
set_option linter.unusedVariables false
section
namespace Go.Proofs.YtlfjokcbkopfeaaGreatDoor
open Go Go.RowKit
namespace Sv
attribute [local irreducible] SW SO holds
theorem en_10 : Enters Tryz.prog 10 := enters_of Tryz.func10 (by kernel_rfl) rfl
theorem en_45 : Enters Tryz.prog 45 := enters_of Tryz.func45 (by kernel_rfl) rfl
structure OfferT where
 id : Int
 own : Bool
 op : Int
 evr : List UInt8
 deriving Inhabited
noncomputable def offX (o : OfferT) : AV := .agg [.int .i64 o.id, .bool o.own, .int .i64 o.op, .str o.evr]
def offL (ps : List (List UInt8 × OfferT)) (s : List UInt8) : List OfferT := (ps.filter fun q => decide (q.1 = s)).map fun q => q.2
noncomputable def offG (ps : List (List UInt8 × OfferT)) (s : List UInt8) : List AV := (offL ps s).map offX
theorem offG_put (ps : List (List UInt8 × OfferT)) (s : List UInt8) (o : OfferT) : updG (offG ps) s (offG ps s ++ [offX o]) = offG (ps ++ [(s, o)]) := by
 funext t
 unfold updG offG offL
 rw [List.filter_append, List.map_append, List.map_append]
 by_cases h : t = s
 ·subst h; rw [if_pos rfl]; simp
 ·rw [if_neg h]
  have : ¬ s = t := fun q => h q.symm
  simp [this]
theorem offG_len (ps : List (List UInt8 × OfferT)) (s : List UInt8) : (offG ps s).length ≤ ps.length := by
 unfold offG offL
 rw [List.length_map, List.length_map]; exact List.length_filter_le _ _
def putsA (i : Nat) (p : PkgT) (j : Nat) : List (List UInt8 × OfferT) := (p.name, ⟨i, true, 2, p.evr⟩) :: (p.provides.take j).map fun d => (d.name, ⟨i, false, d.op, d.evr⟩)
def putsB (i : Nat) (p : PkgT) (j : Nat) : List (List UInt8 × OfferT) := putsA i p p.provides.length ++ (p.files.take j).map fun f => (f, ⟨i, false, 0, []⟩)
def putsOf (i : Nat) (p : PkgT) : List (List UInt8 × OfferT) := putsB i p p.files.length
def putsTo (l : List (PkgT × Int)) (n : Nat) : List (List UInt8 × OfferT) := (List.range n).flatMap fun i => putsOf i (nth l i).1
theorem putsA_next {i : Nat} {p : PkgT} {j : Nat} (h : j < p.provides.length) : putsA i p (j + 1) = putsA i p j ++ [((nth p.provides j).name, ⟨i, false, (nth p.provides j).op, (nth p.provides j).evr⟩)] := by
 unfold putsA
 rw [List.take_add_one, List.getElem?_eq_getElem h, List.map_append]
 simp [nth, h]
theorem putsB_next {i : Nat} {p : PkgT} {j : Nat} (h : j < p.files.length) : putsB i p (j + 1) = putsB i p j ++ [(nth p.files j, ⟨i, false, 0, []⟩)] := by
 unfold putsB
 rw [List.take_add_one, List.getElem?_eq_getElem h, List.map_append, List.append_assoc]
 simp [nth, h]
theorem putsTo_next {l : List (PkgT × Int)} {n : Nat} : putsTo l (n + 1) = putsTo l n ++ putsOf n (nth l n).1 := by
 unfold putsTo
 rw [List.range_succ, List.flatMap_append]; simp
theorem putsA_len {i : Nat} {p : PkgT} {j : Nat} : (putsA i p j).length ≤ 1 + p.provides.length := by
 unfold putsA; simp only [List.length_cons, List.length_map, List.length_take]; omega
theorem putsB_len {i : Nat} {p : PkgT} {j : Nat} : (putsB i p j).length ≤ 1 + p.provides.length + p.files.length := by
 have := putsA_len (i := i) (p := p) (j := p.provides.length)
 unfold putsB; simp only [List.length_append, List.length_map, List.length_take]; omega
theorem putsTo_len {l : List (PkgT × Int)} (hs : ∀ i, i < l.length → (nth l i).1.size ≤ 4194304) : ∀ n, n ≤ l.length → (putsTo l n).length ≤ n * 8388609 := by
 intro n
 induction n with
 | zero => intro _; exact Nat.le_refl _
 | succ n ih =>
  intro h
  have h1 := ih (by omega)
  have h2 := putsB_len (i := n) (p := (nth l n).1) (j := (nth l n).1.files.length)
  have h3 := (nth l n).1.sizes
  have h4 := hs n (by omega)
  have h5 := args_len (nth l n).1.provides
  have h6 := files_len (nth l n).1.files
  have h7 : argsSize (nth l n).1.provides ≤ (nth l n).1.depSize := by unfold PkgT.depSize; omega
  rw [putsTo_next, List.length_append]
  unfold putsOf
  omega
noncomputable def indexX (st : PoolT) : AV := .agg [.int .i64 st.kind, .int .i64 (st.all.length : Int), .smap (.slice none 0 0) (fun s => .row 4 (offG (putsTo st.all st.all.length) s).length (fun i => (offG (putsTo st.all st.all.length) s).getD i junk))]
set_option maxHeartbeats 1000000 in
set_option maxRecDepth 100000 in
theorem put_any (kind count : Int) (ps : List (List UInt8 × OfferT)) (s : List UInt8) (o : OfferT) (hl : (offG ps s).length ≤ 2147483648) :
  CallS Tryz.prog 45 [(.str s), (.agg [(.int .i64 o.id), (.bool o.own), (.int .i64 o.op), (.str o.evr)]), (.ptr 0 0)] [(0, (.row [(.ptr 1 0)] 32)), (1, (.row [(.int .i64 kind), (.int .i64 count), (.map 2)] 80)), (2, (.mm (offG ps) none 84 4))] 3 (.tup []) [(0, (.row [(.ptr 1 0)] 32)), (1, (.row [(.int .i64 kind), (.int .i64 count), (.map 2)] 80)), (2, (.mm (offG (ps ++ [(s, o)])) none 84 4))] := by
 refine CallS_intro [] Tryz.func45 rfl Tryz.ntmps45 rfl rfl (by kernel_rfl) (by kernel_rfl) (by kernel_rfl) (fun B F hF => ?_)
 refine SW_P [] [0, 2, 4] ?_
 refine SW_still 4 (y := ⟨[(0, (.str s)), (2, (.ptr 0 0)), (4, (.fp (.agg [(.int .i64 o.id), (.bool o.own), (.int .i64 o.op), (.str o.evr)])))], [(0, (.row [(.ptr 1 0)] 32)), (1, (.row [(.int .i64 kind), (.int .i64 count), (.map 2)] 80)), (2, (.mm (offG ps) none 84 4))], 4⟩) (by kernel_rfl) ?_
 refine SW_draw (by kernel_rfl) (fun F1 hF1 => ?_)
 refine SG_memo false 1 (lsD 15 [0, 1, 2, 3, 4, 5, 6, 7, 8, 9, 10, 11, 12, 13]) ⟨[(8, (.map 2)), (9, (.str s)), (18, (.own 4))], [(0, (.row [(.ptr 1 0)] 32)), (1, (.row [(.int .i64 kind), (.int .i64 count), (.map 2)] 80)), (2, (.mm (offG ps) (some s) 84 4)), (4, (.grow (((offG ps) s) ++ ([(.agg [(.int .i64 o.id), (.bool o.own), (.int .i64 o.op), (.str o.evr)])] : List AV)) 84 4)), (5, (.row [(.int .i64 o.id), (.bool o.own), (.int .i64 o.op), (.str o.evr)] 84))], 6⟩ ?_ (fun m1_1 => ?_)
 ·refine SG_one (fuel := 0) 14 (by kernel_rfl) ?_
  refine SN_by (fuel := 0) 14 rfl ?_
  refine SO_put (b := 2) (c := 4) (s := s) (s1 := s) (y := ⟨[(8, (.map 2)), (9, (.str s)), (18, (.own 4))], [(0, (.row [(.ptr 1 0)] 32)), (1, (.row [(.int .i64 kind), (.int .i64 count), (.map 2)] 80)), (2, (.mm (updG (offG ps) s (((offG ps) s) ++ ([(.agg [(.int .i64 o.id), (.bool o.own), (.int .i64 o.op), (.str o.evr)])] : List AV))) none 84 4)), (5, (.row [(.int .i64 o.id), (.bool o.own), (.int .i64 o.op), (.str o.evr)] 84))], 6⟩) (by kernel_rfl) (by kernel_rfl) (by kernel_rfl) (by kernel_rfl) (by kernel_rfl) rfl Tryz.underlying78 Tryz.underlying9 (by kernel_rfl) rfl ?_
  refine SO_nil ⟨rfl, ?_⟩
  refine SG_S [] ?_
  refine SG_done (by kernel_rfl) ?_
  refine retS_mk (.inr rfl) (al := []) (by kernel_rfl) ?_ ((by kernel_rfl : cutH 3 _ = some [(0, (.row [(.ptr 1 0)] 32)), (1, (.row [(.int .i64 kind), (.int .i64 count), (.map 2)] 80)), (2, (.mm (updG (offG ps) s (((offG ps) s) ++ ([(.agg [(.int .i64 o.id), (.bool o.own), (.int .i64 o.op), (.str o.evr)])] : List AV))) none 84 4))]).trans ?_)
  ·rfl
  ·rw [show (updG (offG ps) s (((offG ps) s) ++ ([(.agg [(.int .i64 o.id), (.bool o.own), (.int .i64 o.op), (.str o.evr)])] : List AV))) = offG (ps ++ [(s, o)]) from offG_put ps s o] <;> kernel_rfl
 refine SG_memo false 1 (lsD 15 [0, 1, 2, 3, 4, 5, 6, 7, 8, 9, 10, 11, 12, 13]) ⟨[(8, (.map 2)), (9, (.str s)), (18, (.own 5))], [(0, (.row [(.ptr 1 0)] 32)), (1, (.row [(.int .i64 kind), (.int .i64 count), (.map 2)] 80)), (2, (.mm (offG ps) (some s) 84 4)), (4, (.row [(.int .i64 o.id), (.bool o.own), (.int .i64 o.op), (.str o.evr)] 84)), (5, (.grow (((offG ps) s) ++ ([(.agg [(.int .i64 o.id), (.bool o.own), (.int .i64 o.op), (.str o.evr)])] : List AV)) 84 4))], 6⟩ ?_ (fun m1_2 => ?_)
 ·refine SG_one (fuel := 0) 14 (by kernel_rfl) ?_
  refine SN_by (fuel := 0) 14 rfl ?_
  refine SO_put (b := 2) (c := 5) (s := s) (s1 := s) (y := ⟨[(8, (.map 2)), (9, (.str s)), (18, (.own 5))], [(0, (.row [(.ptr 1 0)] 32)), (1, (.row [(.int .i64 kind), (.int .i64 count), (.map 2)] 80)), (2, (.mm (updG (offG ps) s (((offG ps) s) ++ ([(.agg [(.int .i64 o.id), (.bool o.own), (.int .i64 o.op), (.str o.evr)])] : List AV))) none 84 4)), (4, (.row [(.int .i64 o.id), (.bool o.own), (.int .i64 o.op), (.str o.evr)] 84))], 6⟩) (by kernel_rfl) (by kernel_rfl) (by kernel_rfl) (by kernel_rfl) (by kernel_rfl) rfl Tryz.underlying78 Tryz.underlying9 (by kernel_rfl) rfl ?_
  refine SO_nil ⟨rfl, ?_⟩
  refine SG_S [] ?_
  refine SG_done (by kernel_rfl) ?_
  refine retS_mk (.inr rfl) (al := []) (by kernel_rfl) ?_ ((by kernel_rfl : cutH 3 _ = some [(0, (.row [(.ptr 1 0)] 32)), (1, (.row [(.int .i64 kind), (.int .i64 count), (.map 2)] 80)), (2, (.mm (updG (offG ps) s (((offG ps) s) ++ ([(.agg [(.int .i64 o.id), (.bool o.own), (.int .i64 o.op), (.str o.evr)])] : List AV))) none 84 4))]).trans ?_)
  ·rfl
  ·rw [show (updG (offG ps) s (((offG ps) s) ++ ([(.agg [(.int .i64 o.id), (.bool o.own), (.int .i64 o.op), (.str o.evr)])] : List AV))) = offG (ps ++ [(s, o)]) from offG_put ps s o] <;> kernel_rfl
 refine SG_memo false 2 (lsD 15 [0, 1, 2, 3, 4, 5, 6, 7, 8, 9, 10, 11, 12]) ⟨[(8, (.map 2)), (9, (.str s)), (15, (.own 4)), (17, (.sl 5 0 1 1 false))], [(0, (.row [(.ptr 1 0)] 32)), (1, (.row [(.int .i64 kind), (.int .i64 count), (.map 2)] 80)), (2, (.mm (offG ps) (some s) 84 4)), (4, (.grow ((offG ps) s) 84 4)), (5, (.row [(.int .i64 o.id), (.bool o.own), (.int .i64 o.op), (.str o.evr)] 84))], 6⟩ ?_ (fun m1_3 => ?_)
 ·refine SG_I (fuel := 1) 13 [] (hold (p := ((((offG ps) s).length + 1) * 40 ≤ 140737488355328)) (by first | omega | (simp; omega) | (simp; done) | (intros; simp_all; omega) | (intros; simp_all; done))) ?_
  refine SG_S [8, 9, 18] ?_
  exact SG_G m1_1
 refine SG_memo false 2 (lsD 15 [0, 1, 2, 3, 4, 5, 6, 7, 8, 9, 10, 11, 12]) ⟨[(8, (.map 2)), (9, (.str s)), (15, (.own 5)), (17, (.sl 4 0 1 1 false))], [(0, (.row [(.ptr 1 0)] 32)), (1, (.row [(.int .i64 kind), (.int .i64 count), (.map 2)] 80)), (2, (.mm (offG ps) (some s) 84 4)), (4, (.row [(.int .i64 o.id), (.bool o.own), (.int .i64 o.op), (.str o.evr)] 84)), (5, (.grow ((offG ps) s) 84 4))], 6⟩ ?_ (fun m1_4 => ?_)
 ·refine SG_I (fuel := 1) 13 [] (hold (p := ((((offG ps) s).length + 1) * 40 ≤ 140737488355328)) (by first | omega | (simp; omega) | (simp; done) | (intros; simp_all; omega) | (intros; simp_all; done))) ?_
  refine SG_S [8, 9, 18] ?_
  exact SG_G m1_2
 refine SG_memo false 2 (lsD 15 [0, 1, 2, 4, 5, 6, 7, 8, 9, 10, 11, 12, 13]) ⟨[(7, (.ptr 1 2)), (9, (.str s)), (18, (.own 4))], [(0, (.row [(.ptr 1 0)] 32)), (1, (.row [(.int .i64 kind), (.int .i64 count), (.map 2)] 80)), (2, (.mm (offG ps) (some s) 84 4)), (4, (.grow (((offG ps) s) ++ ([(.agg [(.int .i64 o.id), (.bool o.own), (.int .i64 o.op), (.str o.evr)])] : List AV)) 84 4)), (5, (.row [(.int .i64 o.id), (.bool o.own), (.int .i64 o.op), (.str o.evr)] 84))], 6⟩ ?_ (fun m1_5 => ?_)
 ·refine SG_I (fuel := 1) 3 [] hold0 ?_
  refine SG_S [8, 9, 18] ?_
  exact SG_G m1_1
 refine SG_memo false 2 (lsD 15 [0, 1, 2, 4, 5, 6, 7, 8, 9, 10, 11, 12, 13]) ⟨[(7, (.ptr 1 2)), (9, (.str s)), (18, (.own 5))], [(0, (.row [(.ptr 1 0)] 32)), (1, (.row [(.int .i64 kind), (.int .i64 count), (.map 2)] 80)), (2, (.mm (offG ps) (some s) 84 4)), (4, (.row [(.int .i64 o.id), (.bool o.own), (.int .i64 o.op), (.str o.evr)] 84)), (5, (.grow (((offG ps) s) ++ ([(.agg [(.int .i64 o.id), (.bool o.own), (.int .i64 o.op), (.str o.evr)])] : List AV)) 84 4))], 6⟩ ?_ (fun m1_6 => ?_)
 ·refine SG_I (fuel := 1) 3 [] hold0 ?_
  refine SG_S [8, 9, 18] ?_
  exact SG_G m1_2
 refine SG_memo false 3 (lsD 15 [0, 1, 2, 3, 4, 5, 6, 7, 8, 9, 10, 11]) ⟨[(8, (.map 2)), (9, (.str s)), (15, (.own 4)), (16, (.agg [(.int .i64 o.id), (.bool o.own), (.int .i64 o.op), (.str o.evr)]))], [(0, (.row [(.ptr 1 0)] 32)), (1, (.row [(.int .i64 kind), (.int .i64 count), (.map 2)] 80)), (2, (.mm (offG ps) (some s) 84 4)), (4, (.grow ((offG ps) s) 84 4))], 5⟩ ?_ (fun m1_7 => ?_)
 ·refine SG_I (fuel := 2) 12 [] hold0 ?_
  refine SG_S [8, 9, 15, 17] ?_
  exact SG_G m1_3
 refine SG_memo true 3 (lsD 15 [0, 1, 2, 3, 4, 5, 6, 7, 8, 9, 11, 12]) ⟨[(8, (.map 2)), (9, (.str s)), (13, (.map 2)), (14, (.str s)), (17, (.sl 4 0 1 1 false))], [(0, (.row [(.ptr 1 0)] 32)), (1, (.row [(.int .i64 kind), (.int .i64 count), (.map 2)] 80)), (2, (.mm (offG ps) none 84 4)), (4, (.row [(.int .i64 o.id), (.bool o.own), (.int .i64 o.op), (.str o.evr)] 84))], 5⟩ ?_ (fun m1_8 => ?_)
 ·refine SG_one (fuel := 2) 10 (by kernel_rfl) ?_
  refine SN_by (fuel := 2) 10 rfl ?_
  refine SO_take (b := 2) (s := s) (y := ⟨[(8, (.map 2)), (9, (.str s)), (13, (.map 2)), (14, (.str s)), (17, (.sl 4 0 1 1 false)), (15, (.own 5))], [(0, (.row [(.ptr 1 0)] 32)), (1, (.row [(.int .i64 kind), (.int .i64 count), (.map 2)] 80)), (2, (.mm (offG ps) (some s) 84 4)), (4, (.row [(.int .i64 o.id), (.bool o.own), (.int .i64 o.op), (.str o.evr)] 84)), (5, (.grow ((offG ps) s) 84 4))], 6⟩) (by kernel_rfl) (by kernel_rfl) (by kernel_rfl) Tryz.underlying78 Tryz.underlying9 (fun _ => by kernel_rfl) (by kernel_rfl) ?_
  refine SO_nil ⟨rfl, ?_⟩
  refine SG_S [8, 9, 15, 17] ?_
  exact SG_G m1_4
 refine SG_memo false 3 (lsD 15 [0, 1, 2, 4, 5, 6, 7, 8, 9, 10, 11, 12]) ⟨[(7, (.ptr 1 2)), (9, (.str s)), (15, (.own 4)), (17, (.sl 5 0 1 1 false))], [(0, (.row [(.ptr 1 0)] 32)), (1, (.row [(.int .i64 kind), (.int .i64 count), (.map 2)] 80)), (2, (.mm (offG ps) (some s) 84 4)), (4, (.grow ((offG ps) s) 84 4)), (5, (.row [(.int .i64 o.id), (.bool o.own), (.int .i64 o.op), (.str o.evr)] 84))], 6⟩ ?_ (fun m1_9 => ?_)
 ·refine SG_two 3 13 (by kernel_rfl) ?_ ?_
  ·refine SN_I (fuel := 2) 3 [] hold0 ?_
   refine SG_S [8, 9, 15, 17] ?_
   exact SG_G m1_3
  ·refine SN_I (fuel := 2) 13 [] (hold (p := ((((offG ps) s).length + 1) * 40 ≤ 140737488355328)) (by first | omega | (simp; omega) | (simp; done) | (intros; simp_all; omega) | (intros; simp_all; done))) ?_
   refine SG_S [7, 9, 18] ?_
   exact SG_G m1_5
 refine SG_memo false 3 (lsD 15 [0, 1, 2, 4, 5, 6, 7, 8, 9, 10, 11, 12]) ⟨[(7, (.ptr 1 2)), (9, (.str s)), (15, (.own 5)), (17, (.sl 4 0 1 1 false))], [(0, (.row [(.ptr 1 0)] 32)), (1, (.row [(.int .i64 kind), (.int .i64 count), (.map 2)] 80)), (2, (.mm (offG ps) (some s) 84 4)), (4, (.row [(.int .i64 o.id), (.bool o.own), (.int .i64 o.op), (.str o.evr)] 84)), (5, (.grow ((offG ps) s) 84 4))], 6⟩ ?_ (fun m1_10 => ?_)
 ·refine SG_two 3 13 (by kernel_rfl) ?_ ?_
  ·refine SN_I (fuel := 2) 3 [] hold0 ?_
   refine SG_S [8, 9, 15, 17] ?_
   exact SG_G m1_4
  ·refine SN_I (fuel := 2) 13 [] (hold (p := ((((offG ps) s).length + 1) * 40 ≤ 140737488355328)) (by first | omega | (simp; omega) | (simp; done) | (intros; simp_all; omega) | (intros; simp_all; done))) ?_
   refine SG_S [7, 9, 18] ?_
   exact SG_G m1_6
 refine SG_memo true 4 (lsD 15 [0, 1, 2, 3, 4, 5, 6, 7, 8, 9, 11]) ⟨[(8, (.map 2)), (9, (.str s)), (13, (.map 2)), (14, (.str s)), (16, (.agg [(.int .i64 o.id), (.bool o.own), (.int .i64 o.op), (.str o.evr)]))], [(0, (.row [(.ptr 1 0)] 32)), (1, (.row [(.int .i64 kind), (.int .i64 count), (.map 2)] 80)), (2, (.mm (offG ps) none 84 4))], 4⟩ ?_ (fun m1_11 => ?_)
 ·refine SG_two 10 12 (by kernel_rfl) ?_ ?_
  ·refine SN_by (fuel := 3) 10 rfl ?_
   refine SO_take (b := 2) (s := s) (y := ⟨[(8, (.map 2)), (9, (.str s)), (13, (.map 2)), (14, (.str s)), (16, (.agg [(.int .i64 o.id), (.bool o.own), (.int .i64 o.op), (.str o.evr)])), (15, (.own 4))], [(0, (.row [(.ptr 1 0)] 32)), (1, (.row [(.int .i64 kind), (.int .i64 count), (.map 2)] 80)), (2, (.mm (offG ps) (some s) 84 4)), (4, (.grow ((offG ps) s) 84 4))], 5⟩) (by kernel_rfl) (by kernel_rfl) (by kernel_rfl) Tryz.underlying78 Tryz.underlying9 (fun _ => by kernel_rfl) (by kernel_rfl) ?_
   refine SO_nil ⟨rfl, ?_⟩
   refine SG_S [8, 9, 15, 16] ?_
   exact SG_G m1_7
  ·refine SN_I (fuel := 3) 12 [] hold0 ?_
   refine SG_S [8, 9, 13, 14, 17] ?_
   exact SG_G m1_8
 refine SG_memo true 4 (lsD 15 [0, 1, 2, 3, 4, 5, 6, 7, 9, 11, 12]) ⟨[(8, (.map 2)), (9, (.str s)), (12, (.ptr 1 2)), (14, (.str s)), (17, (.sl 4 0 1 1 false))], [(0, (.row [(.ptr 1 0)] 32)), (1, (.row [(.int .i64 kind), (.int .i64 count), (.map 2)] 80)), (2, (.mm (offG ps) none 84 4)), (4, (.row [(.int .i64 o.id), (.bool o.own), (.int .i64 o.op), (.str o.evr)] 84))], 5⟩ ?_ (fun m1_12 => ?_)
 ·refine SG_I (fuel := 3) 8 [] hold0 ?_
  refine SG_S [8, 9, 13, 14, 17] ?_
  exact SG_G m1_8
 refine SG_memo false 4 (lsD 15 [0, 1, 2, 4, 5, 6, 7, 8, 9, 10, 11]) ⟨[(7, (.ptr 1 2)), (9, (.str s)), (15, (.own 4)), (16, (.agg [(.int .i64 o.id), (.bool o.own), (.int .i64 o.op), (.str o.evr)]))], [(0, (.row [(.ptr 1 0)] 32)), (1, (.row [(.int .i64 kind), (.int .i64 count), (.map 2)] 80)), (2, (.mm (offG ps) (some s) 84 4)), (4, (.grow ((offG ps) s) 84 4))], 5⟩ ?_ (fun m1_13 => ?_)
 ·refine SG_two 3 12 (by kernel_rfl) ?_ ?_
  ·refine SN_I (fuel := 3) 3 [] hold0 ?_
   refine SG_S [8, 9, 15, 16] ?_
   exact SG_G m1_7
  ·refine SN_I (fuel := 3) 12 [] hold0 ?_
   refine SG_S [7, 9, 15, 17] ?_
   exact SG_G m1_9
 refine SG_memo true 4 (lsD 15 [0, 1, 2, 4, 5, 6, 7, 8, 9, 11, 12]) ⟨[(7, (.ptr 1 2)), (9, (.str s)), (13, (.map 2)), (14, (.str s)), (17, (.sl 4 0 1 1 false))], [(0, (.row [(.ptr 1 0)] 32)), (1, (.row [(.int .i64 kind), (.int .i64 count), (.map 2)] 80)), (2, (.mm (offG ps) none 84 4)), (4, (.row [(.int .i64 o.id), (.bool o.own), (.int .i64 o.op), (.str o.evr)] 84))], 5⟩ ?_ (fun m1_14 => ?_)
 ·refine SG_two 3 10 (by kernel_rfl) ?_ ?_
  ·refine SN_I (fuel := 3) 3 [] hold0 ?_
   refine SG_S [8, 9, 13, 14, 17] ?_
   exact SG_G m1_8
  ·refine SN_by (fuel := 3) 10 rfl ?_
   refine SO_take (b := 2) (s := s) (y := ⟨[(7, (.ptr 1 2)), (9, (.str s)), (13, (.map 2)), (14, (.str s)), (17, (.sl 4 0 1 1 false)), (15, (.own 5))], [(0, (.row [(.ptr 1 0)] 32)), (1, (.row [(.int .i64 kind), (.int .i64 count), (.map 2)] 80)), (2, (.mm (offG ps) (some s) 84 4)), (4, (.row [(.int .i64 o.id), (.bool o.own), (.int .i64 o.op), (.str o.evr)] 84)), (5, (.grow ((offG ps) s) 84 4))], 6⟩) (by kernel_rfl) (by kernel_rfl) (by kernel_rfl) Tryz.underlying78 Tryz.underlying9 (fun _ => by kernel_rfl) (by kernel_rfl) ?_
   refine SO_nil ⟨rfl, ?_⟩
   refine SG_S [7, 9, 15, 17] ?_
   exact SG_G m1_10
 refine SG_memo true 5 (lsD 15 [0, 1, 2, 3, 4, 5, 6, 7, 9, 11]) ⟨[(8, (.map 2)), (9, (.str s)), (12, (.ptr 1 2)), (14, (.str s)), (16, (.agg [(.int .i64 o.id), (.bool o.own), (.int .i64 o.op), (.str o.evr)]))], [(0, (.row [(.ptr 1 0)] 32)), (1, (.row [(.int .i64 kind), (.int .i64 count), (.map 2)] 80)), (2, (.mm (offG ps) none 84 4))], 4⟩ ?_ (fun m1_15 => ?_)
 ·refine SG_two 8 12 (by kernel_rfl) ?_ ?_
  ·refine SN_I (fuel := 4) 8 [] hold0 ?_
   refine SG_S [8, 9, 13, 14, 16] ?_
   exact SG_G m1_11
  ·refine SN_I (fuel := 4) 12 [] hold0 ?_
   refine SG_S [8, 9, 12, 14, 17] ?_
   exact SG_G m1_12
 refine SG_memo true 5 (lsD 15 [0, 1, 2, 4, 5, 6, 7, 8, 9, 11]) ⟨[(7, (.ptr 1 2)), (9, (.str s)), (13, (.map 2)), (14, (.str s)), (16, (.agg [(.int .i64 o.id), (.bool o.own), (.int .i64 o.op), (.str o.evr)]))], [(0, (.row [(.ptr 1 0)] 32)), (1, (.row [(.int .i64 kind), (.int .i64 count), (.map 2)] 80)), (2, (.mm (offG ps) none 84 4))], 4⟩ ?_ (fun m1_16 => ?_)
 ·refine SG_three 3 10 12 (by kernel_rfl) ?_ ?_ ?_
  ·refine SN_I (fuel := 4) 3 [] hold0 ?_
   refine SG_S [8, 9, 13, 14, 16] ?_
   exact SG_G m1_11
  ·refine SN_by (fuel := 4) 10 rfl ?_
   refine SO_take (b := 2) (s := s) (y := ⟨[(7, (.ptr 1 2)), (9, (.str s)), (13, (.map 2)), (14, (.str s)), (16, (.agg [(.int .i64 o.id), (.bool o.own), (.int .i64 o.op), (.str o.evr)])), (15, (.own 4))], [(0, (.row [(.ptr 1 0)] 32)), (1, (.row [(.int .i64 kind), (.int .i64 count), (.map 2)] 80)), (2, (.mm (offG ps) (some s) 84 4)), (4, (.grow ((offG ps) s) 84 4))], 5⟩) (by kernel_rfl) (by kernel_rfl) (by kernel_rfl) Tryz.underlying78 Tryz.underlying9 (fun _ => by kernel_rfl) (by kernel_rfl) ?_
   refine SO_nil ⟨rfl, ?_⟩
   refine SG_S [7, 9, 15, 16] ?_
   exact SG_G m1_13
  ·refine SN_I (fuel := 4) 12 [] hold0 ?_
   refine SG_S [7, 9, 13, 14, 17] ?_
   exact SG_G m1_14
 refine SG_memo true 5 (lsD 15 [0, 1, 2, 4, 5, 6, 7, 9, 11, 12]) ⟨[(7, (.ptr 1 2)), (9, (.str s)), (12, (.ptr 1 2)), (14, (.str s)), (17, (.sl 4 0 1 1 false))], [(0, (.row [(.ptr 1 0)] 32)), (1, (.row [(.int .i64 kind), (.int .i64 count), (.map 2)] 80)), (2, (.mm (offG ps) none 84 4)), (4, (.row [(.int .i64 o.id), (.bool o.own), (.int .i64 o.op), (.str o.evr)] 84))], 5⟩ ?_ (fun m1_17 => ?_)
 ·refine SG_two 3 8 (by kernel_rfl) ?_ ?_
  ·refine SN_I (fuel := 4) 3 [] hold0 ?_
   refine SG_S [8, 9, 12, 14, 17] ?_
   exact SG_G m1_12
  ·refine SN_I (fuel := 4) 8 [] hold0 ?_
   refine SG_S [7, 9, 13, 14, 17] ?_
   exact SG_G m1_14
 refine SG_memo true 7 (lsD 15 [0, 1, 2, 3, 4, 9, 11, 12]) ⟨[(2, (.ptr 0 0)), (8, (.map 2)), (9, (.str s)), (14, (.str s)), (17, (.sl 4 0 1 1 false))], [(0, (.row [(.ptr 1 0)] 32)), (1, (.row [(.int .i64 kind), (.int .i64 count), (.map 2)] 80)), (2, (.mm (offG ps) none 84 4)), (4, (.row [(.int .i64 o.id), (.bool o.own), (.int .i64 o.op), (.str o.evr)] 84))], 5⟩ ?_ (fun m1_18 => ?_)
 ·refine SG_I (fuel := 6) 5 [] hold0 ?_
  refine SG_F (fuel := 4) [] [6, 7] [8, 9, 12, 14, 17] hold0 ?_
  refine SG_I (fuel := 3) 8 [] hold0 ?_
  refine SG_S [8, 9, 13, 14, 17] ?_
  exact SG_G m1_8
 refine SG_memo true 7 (lsD 15 [0, 1, 2, 4, 5, 9, 11, 12]) ⟨[(7, (.ptr 1 2)), (9, (.str s)), (10, (.ptr 1 0)), (14, (.str s)), (17, (.sl 4 0 1 1 false))], [(0, (.row [(.ptr 1 0)] 32)), (1, (.row [(.int .i64 kind), (.int .i64 count), (.map 2)] 80)), (2, (.mm (offG ps) none 84 4)), (4, (.row [(.int .i64 o.id), (.bool o.own), (.int .i64 o.op), (.str o.evr)] 84))], 5⟩ ?_ (fun m1_19 => ?_)
 ·refine SG_F (fuel := 5) [] [6, 7] [7, 9, 12, 14, 17] hold0 ?_
  refine SG_two 3 8 (by kernel_rfl) ?_ ?_
  ·refine SN_I (fuel := 4) 3 [] hold0 ?_
   refine SG_S [8, 9, 12, 14, 17] ?_
   exact SG_G m1_12
  ·refine SN_I (fuel := 4) 8 [] hold0 ?_
   refine SG_S [7, 9, 13, 14, 17] ?_
   exact SG_G m1_14
 refine SG_memo true 7 (lsD 15 [4, 5, 6, 7, 8, 9, 11, 12]) ⟨[(2, (.ptr 0 0)), (9, (.str s)), (13, (.map 2)), (14, (.str s)), (17, (.sl 4 0 1 1 false))], [(0, (.row [(.ptr 1 0)] 32)), (1, (.row [(.int .i64 kind), (.int .i64 count), (.map 2)] 80)), (2, (.mm (offG ps) none 84 4)), (4, (.row [(.int .i64 o.id), (.bool o.own), (.int .i64 o.op), (.str o.evr)] 84))], 5⟩ ?_ (fun m1_20 => ?_)
 ·refine SG_two 0 10 (by kernel_rfl) ?_ ?_
  ·refine SN_I (fuel := 6) 0 [] hold0 ?_
   refine SG_S [5, 9, 13, 14, 17] ?_
   refine SG_F (fuel := 4) [] [1, 2] [7, 9, 13, 14, 17] hold0 ?_
   refine SG_two 3 10 (by kernel_rfl) ?_ ?_
   ·refine SN_I (fuel := 3) 3 [] hold0 ?_
    refine SG_S [8, 9, 13, 14, 17] ?_
    exact SG_G m1_8
   ·refine SN_by (fuel := 3) 10 rfl ?_
    refine SO_take (b := 2) (s := s) (y := ⟨[(7, (.ptr 1 2)), (9, (.str s)), (13, (.map 2)), (14, (.str s)), (17, (.sl 4 0 1 1 false)), (15, (.own 5))], [(0, (.row [(.ptr 1 0)] 32)), (1, (.row [(.int .i64 kind), (.int .i64 count), (.map 2)] 80)), (2, (.mm (offG ps) (some s) 84 4)), (4, (.row [(.int .i64 o.id), (.bool o.own), (.int .i64 o.op), (.str o.evr)] 84)), (5, (.grow ((offG ps) s) 84 4))], 6⟩) (by kernel_rfl) (by kernel_rfl) (by kernel_rfl) Tryz.underlying78 Tryz.underlying9 (fun _ => by kernel_rfl) (by kernel_rfl) ?_
    refine SO_nil ⟨rfl, ?_⟩
    refine SG_S [7, 9, 15, 17] ?_
    exact SG_G m1_10
  ·refine SN_by (fuel := 6) 10 rfl ?_
   refine SO_take (b := 2) (s := s) (y := ⟨[(2, (.ptr 0 0)), (9, (.str s)), (13, (.map 2)), (14, (.str s)), (17, (.sl 4 0 1 1 false)), (15, (.own 5))], [(0, (.row [(.ptr 1 0)] 32)), (1, (.row [(.int .i64 kind), (.int .i64 count), (.map 2)] 80)), (2, (.mm (offG ps) (some s) 84 4)), (4, (.row [(.int .i64 o.id), (.bool o.own), (.int .i64 o.op), (.str o.evr)] 84)), (5, (.grow ((offG ps) s) 84 4))], 6⟩) (by kernel_rfl) (by kernel_rfl) (by kernel_rfl) Tryz.underlying78 Tryz.underlying9 (fun _ => by kernel_rfl) (by kernel_rfl) ?_
   refine SO_nil ⟨rfl, ?_⟩
   refine SG_S [2, 9, 15, 17] ?_
   refine SG_two 0 13 (by kernel_rfl) ?_ ?_
   ·refine SN_I (fuel := 5) 0 [] hold0 ?_
    refine SG_S [5, 9, 15, 17] ?_
    refine SG_F (fuel := 3) [] [1, 2] [7, 9, 15, 17] hold0 ?_
    refine SG_two 3 13 (by kernel_rfl) ?_ ?_
    ·refine SN_I (fuel := 2) 3 [] hold0 ?_
     refine SG_S [8, 9, 15, 17] ?_
     exact SG_G m1_4
    ·refine SN_I (fuel := 2) 13 [] (hold (p := ((((offG ps) s).length + 1) * 40 ≤ 140737488355328)) (by first | omega | (simp; omega) | (simp; done) | (intros; simp_all; omega) | (intros; simp_all; done))) ?_
     refine SG_S [7, 9, 18] ?_
     exact SG_G m1_6
   ·refine SN_I (fuel := 5) 13 [] (hold (p := ((((offG ps) s).length + 1) * 40 ≤ 140737488355328)) (by first | omega | (simp; omega) | (simp; done) | (intros; simp_all; omega) | (intros; simp_all; done))) ?_
    refine SG_S [2, 9, 18] ?_
    refine SG_I (fuel := 4) 0 [] hold0 ?_
    refine SG_F (fuel := 2) [] [1, 2] [7, 9, 18] hold0 ?_
    refine SG_I (fuel := 1) 3 [] hold0 ?_
    refine SG_S [8, 9, 18] ?_
    exact SG_G m1_2
 refine SG_memo true 7 (lsD 15 [0, 4, 5, 6, 7, 9, 11, 12]) ⟨[(5, (.ptr 1 0)), (9, (.str s)), (12, (.ptr 1 2)), (14, (.str s)), (17, (.sl 4 0 1 1 false))], [(0, (.row [(.ptr 1 0)] 32)), (1, (.row [(.int .i64 kind), (.int .i64 count), (.map 2)] 80)), (2, (.mm (offG ps) none 84 4)), (4, (.row [(.int .i64 o.id), (.bool o.own), (.int .i64 o.op), (.str o.evr)] 84))], 5⟩ ?_ (fun m1_21 => ?_)
 ·refine SG_F (fuel := 5) [] [1, 2] [7, 9, 12, 14, 17] hold0 ?_
  refine SG_two 3 8 (by kernel_rfl) ?_ ?_
  ·refine SN_I (fuel := 4) 3 [] hold0 ?_
   refine SG_S [8, 9, 12, 14, 17] ?_
   exact SG_G m1_12
  ·refine SN_I (fuel := 4) 8 [] hold0 ?_
   refine SG_S [7, 9, 13, 14, 17] ?_
   exact SG_G m1_14
 refine SG_F (fuel := 12) [] [4, 9, 11] [2, 9, 14, 16] hold0 ?_
 refine SG_three 0 5 12 (by kernel_rfl) ?_ ?_ ?_
 ·refine SN_I (fuel := 11) 0 [] hold0 ?_
  refine SG_S [2, 5, 9, 14, 16] ?_
  refine SG_F (fuel := 9) [] [1, 2] [2, 7, 9, 14, 16] hold0 ?_
  refine SG_three 3 5 12 (by kernel_rfl) ?_ ?_ ?_
  ·refine SN_I (fuel := 8) 3 [] hold0 ?_
   refine SG_S [2, 8, 9, 14, 16] ?_
   refine SG_two 5 12 (by kernel_rfl) ?_ ?_
   ·refine SN_I (fuel := 7) 5 [] hold0 ?_
    refine SG_S [8, 9, 10, 14, 16] ?_
    refine SG_F (fuel := 5) [] [6, 7] [8, 9, 12, 14, 16] hold0 ?_
    refine SG_two 8 12 (by kernel_rfl) ?_ ?_
    ·refine SN_I (fuel := 4) 8 [] hold0 ?_
     refine SG_S [8, 9, 13, 14, 16] ?_
     exact SG_G m1_11
    ·refine SN_I (fuel := 4) 12 [] hold0 ?_
     refine SG_S [8, 9, 12, 14, 17] ?_
     exact SG_G m1_12
   ·refine SN_I (fuel := 7) 12 [] hold0 ?_
    refine SG_S [2, 8, 9, 14, 17] ?_
    exact SG_G m1_18
  ·refine SN_I (fuel := 8) 5 [] hold0 ?_
   refine SG_S [7, 9, 10, 14, 16] ?_
   refine SG_F (fuel := 6) [] [6, 7] [7, 9, 12, 14, 16] hold0 ?_
   refine SG_three 3 8 12 (by kernel_rfl) ?_ ?_ ?_
   ·refine SN_I (fuel := 5) 3 [] hold0 ?_
    refine SG_S [8, 9, 12, 14, 16] ?_
    exact SG_G m1_15
   ·refine SN_I (fuel := 5) 8 [] hold0 ?_
    refine SG_S [7, 9, 13, 14, 16] ?_
    exact SG_G m1_16
   ·refine SN_I (fuel := 5) 12 [] hold0 ?_
    refine SG_S [7, 9, 12, 14, 17] ?_
    exact SG_G m1_17
  ·refine SN_I (fuel := 8) 12 [] hold0 ?_
   refine SG_S [2, 7, 9, 14, 17] ?_
   refine SG_two 3 5 (by kernel_rfl) ?_ ?_
   ·refine SN_I (fuel := 7) 3 [] hold0 ?_
    refine SG_S [2, 8, 9, 14, 17] ?_
    exact SG_G m1_18
   ·refine SN_I (fuel := 7) 5 [] hold0 ?_
    refine SG_S [7, 9, 10, 14, 17] ?_
    exact SG_G m1_19
 ·refine SN_I (fuel := 11) 5 [] hold0 ?_
  refine SG_S [2, 9, 10, 14, 16] ?_
  refine SG_F (fuel := 9) [] [6, 7] [2, 9, 12, 14, 16] hold0 ?_
  refine SG_three 0 8 12 (by kernel_rfl) ?_ ?_ ?_
  ·refine SN_I (fuel := 8) 0 [] hold0 ?_
   refine SG_S [5, 9, 12, 14, 16] ?_
   refine SG_F (fuel := 6) [] [1, 2] [7, 9, 12, 14, 16] hold0 ?_
   refine SG_three 3 8 12 (by kernel_rfl) ?_ ?_ ?_
   ·refine SN_I (fuel := 5) 3 [] hold0 ?_
    refine SG_S [8, 9, 12, 14, 16] ?_
    exact SG_G m1_15
   ·refine SN_I (fuel := 5) 8 [] hold0 ?_
    refine SG_S [7, 9, 13, 14, 16] ?_
    exact SG_G m1_16
   ·refine SN_I (fuel := 5) 12 [] hold0 ?_
    refine SG_S [7, 9, 12, 14, 17] ?_
    exact SG_G m1_17
  ·refine SN_I (fuel := 8) 8 [] hold0 ?_
   refine SG_S [2, 9, 13, 14, 16] ?_
   refine SG_three 0 10 12 (by kernel_rfl) ?_ ?_ ?_
   ·refine SN_I (fuel := 7) 0 [] hold0 ?_
    refine SG_S [5, 9, 13, 14, 16] ?_
    refine SG_F (fuel := 5) [] [1, 2] [7, 9, 13, 14, 16] hold0 ?_
    refine SG_three 3 10 12 (by kernel_rfl) ?_ ?_ ?_
    ·refine SN_I (fuel := 4) 3 [] hold0 ?_
     refine SG_S [8, 9, 13, 14, 16] ?_
     exact SG_G m1_11
    ·refine SN_by (fuel := 4) 10 rfl ?_
     refine SO_take (b := 2) (s := s) (y := ⟨[(7, (.ptr 1 2)), (9, (.str s)), (13, (.map 2)), (14, (.str s)), (16, (.agg [(.int .i64 o.id), (.bool o.own), (.int .i64 o.op), (.str o.evr)])), (15, (.own 4))], [(0, (.row [(.ptr 1 0)] 32)), (1, (.row [(.int .i64 kind), (.int .i64 count), (.map 2)] 80)), (2, (.mm (offG ps) (some s) 84 4)), (4, (.grow ((offG ps) s) 84 4))], 5⟩) (by kernel_rfl) (by kernel_rfl) (by kernel_rfl) Tryz.underlying78 Tryz.underlying9 (fun _ => by kernel_rfl) (by kernel_rfl) ?_
     refine SO_nil ⟨rfl, ?_⟩
     refine SG_S [7, 9, 15, 16] ?_
     exact SG_G m1_13
    ·refine SN_I (fuel := 4) 12 [] hold0 ?_
     refine SG_S [7, 9, 13, 14, 17] ?_
     exact SG_G m1_14
   ·refine SN_by (fuel := 7) 10 rfl ?_
    refine SO_take (b := 2) (s := s) (y := ⟨[(2, (.ptr 0 0)), (9, (.str s)), (13, (.map 2)), (14, (.str s)), (16, (.agg [(.int .i64 o.id), (.bool o.own), (.int .i64 o.op), (.str o.evr)])), (15, (.own 4))], [(0, (.row [(.ptr 1 0)] 32)), (1, (.row [(.int .i64 kind), (.int .i64 count), (.map 2)] 80)), (2, (.mm (offG ps) (some s) 84 4)), (4, (.grow ((offG ps) s) 84 4))], 5⟩) (by kernel_rfl) (by kernel_rfl) (by kernel_rfl) Tryz.underlying78 Tryz.underlying9 (fun _ => by kernel_rfl) (by kernel_rfl) ?_
    refine SO_nil ⟨rfl, ?_⟩
    refine SG_S [2, 9, 15, 16] ?_
    refine SG_two 0 12 (by kernel_rfl) ?_ ?_
    ·refine SN_I (fuel := 6) 0 [] hold0 ?_
     refine SG_S [5, 9, 15, 16] ?_
     refine SG_F (fuel := 4) [] [1, 2] [7, 9, 15, 16] hold0 ?_
     refine SG_two 3 12 (by kernel_rfl) ?_ ?_
     ·refine SN_I (fuel := 3) 3 [] hold0 ?_
      refine SG_S [8, 9, 15, 16] ?_
      exact SG_G m1_7
     ·refine SN_I (fuel := 3) 12 [] hold0 ?_
      refine SG_S [7, 9, 15, 17] ?_
      exact SG_G m1_9
    ·refine SN_I (fuel := 6) 12 [] hold0 ?_
     refine SG_S [2, 9, 15, 17] ?_
     refine SG_two 0 13 (by kernel_rfl) ?_ ?_
     ·refine SN_I (fuel := 5) 0 [] hold0 ?_
      refine SG_S [5, 9, 15, 17] ?_
      refine SG_F (fuel := 3) [] [1, 2] [7, 9, 15, 17] hold0 ?_
      refine SG_two 3 13 (by kernel_rfl) ?_ ?_
      ·refine SN_I (fuel := 2) 3 [] hold0 ?_
       refine SG_S [8, 9, 15, 17] ?_
       exact SG_G m1_3
      ·refine SN_I (fuel := 2) 13 [] (hold (p := ((((offG ps) s).length + 1) * 40 ≤ 140737488355328)) (by first | omega | (simp; omega) | (simp; done) | (intros; simp_all; omega) | (intros; simp_all; done))) ?_
       refine SG_S [7, 9, 18] ?_
       exact SG_G m1_5
     ·refine SN_I (fuel := 5) 13 [] (hold (p := ((((offG ps) s).length + 1) * 40 ≤ 140737488355328)) (by first | omega | (simp; omega) | (simp; done) | (intros; simp_all; omega) | (intros; simp_all; done))) ?_
      refine SG_S [2, 9, 18] ?_
      refine SG_I (fuel := 4) 0 [] hold0 ?_
      refine SG_F (fuel := 2) [] [1, 2] [7, 9, 18] hold0 ?_
      refine SG_I (fuel := 1) 3 [] hold0 ?_
      refine SG_S [8, 9, 18] ?_
      exact SG_G m1_1
   ·refine SN_I (fuel := 7) 12 [] hold0 ?_
    refine SG_S [2, 9, 13, 14, 17] ?_
    exact SG_G m1_20
  ·refine SN_I (fuel := 8) 12 [] hold0 ?_
   refine SG_S [2, 9, 12, 14, 17] ?_
   refine SG_two 0 8 (by kernel_rfl) ?_ ?_
   ·refine SN_I (fuel := 7) 0 [] hold0 ?_
    refine SG_S [5, 9, 12, 14, 17] ?_
    exact SG_G m1_21
   ·refine SN_I (fuel := 7) 8 [] hold0 ?_
    refine SG_S [2, 9, 13, 14, 17] ?_
    exact SG_G m1_20
 ·refine SN_I (fuel := 11) 12 [] hold0 ?_
  refine SG_S [2, 9, 14, 17] ?_
  refine SG_two 0 5 (by kernel_rfl) ?_ ?_
  ·refine SN_I (fuel := 10) 0 [] hold0 ?_
   refine SG_S [2, 5, 9, 14, 17] ?_
   refine SG_F (fuel := 8) [] [1, 2] [2, 7, 9, 14, 17] hold0 ?_
   refine SG_two 3 5 (by kernel_rfl) ?_ ?_
   ·refine SN_I (fuel := 7) 3 [] hold0 ?_
    refine SG_S [2, 8, 9, 14, 17] ?_
    exact SG_G m1_18
   ·refine SN_I (fuel := 7) 5 [] hold0 ?_
    refine SG_S [7, 9, 10, 14, 17] ?_
    exact SG_G m1_19
  ·refine SN_I (fuel := 10) 5 [] hold0 ?_
   refine SG_S [2, 9, 10, 14, 17] ?_
   refine SG_F (fuel := 8) [] [6, 7] [2, 9, 12, 14, 17] hold0 ?_
   refine SG_two 0 8 (by kernel_rfl) ?_ ?_
   ·refine SN_I (fuel := 7) 0 [] hold0 ?_
    refine SG_S [5, 9, 12, 14, 17] ?_
    exact SG_G m1_21
   ·refine SN_I (fuel := 7) 8 [] hold0 ?_
    refine SG_S [2, 9, 13, 14, 17] ?_
    exact SG_G m1_20
set_option maxHeartbeats 1000000 in
set_option maxRecDepth 100000 in
theorem provNew_ok (st : PoolT) (hal : st.all.length ≤ 200) (hs : ∀ i, i < st.all.length → (nth st.all i).1.size ≤ 4194304) :
  FnV Tryz.prog 10 [(.fp (poolX st))] (.fp (indexX st)) := by
 refine FnV_intro [.tmp 2] Tryz.func10 rfl Tryz.ntmps10 rfl rfl (fun B F hF => ?_)
 refine SW_P [] [0] ?_
 refine SW_seq ?_
 refine SW_P [] [0, 14] ?_
 refine SW_false (by kernel_rfl) ?_
 refine SW_skip ?_
 refine SW_H [] [0, 3] [] (hk 1 en_42 (Kind_ok st) <| hk 3 en_43 (Len_ok st) <| hk0) v0 c0 ?_
 refine SW_seq ?_
 refine SW_P [] [0, 3, 25, 26] ?_
 refine SW_block ?_
 refine SW_mm 0 84 4 (y := ⟨[(0, (.fp (poolX st))), (3, (.ptr 2 0)), (25, (.int .i64 ((st.all.length : Int)))), (26, (.int .i64 0))], [(0, (.mm (fun _ => []) none 84 4)), (1, (.row [(.int .i64 st.kind), (.int .i64 ((st.all.length : Int))), (.map 0)] 80)), (2, (.row [(.ptr 1 0)] 32))], 3⟩) (by kernel_rfl) ?_
 refine SW_L (fun g y => ∃ (i : Nat), i ≤ st.all.length ∧ y = ⟨[(0, (.fp (poolX st))), (3, (.ptr 2 0)), (25, (.int .i64 ((st.all.length : Int)))), (26, (.int .i64 ((i : Int))))], [(0, (.mm (offG (putsTo st.all i)) none 84 4)), (1, (.row [(.int .i64 st.kind), (.int .i64 ((st.all.length : Int))), (.map 0)] 80)), (2, (.row [(.ptr 1 0)] 32))], 3⟩ ∧ g = st.all.length - i) [0, 3, 25, 26] 3 _ (by omega) ⟨0, (by omega), (by kernel_rfl), rfl⟩ ?_
 rintro g1 y1 ⟨i, f1_1, rfl, rfl⟩
 refine SW_P [] [0, 3, 25, 26, 27] ?_
 refine SW_seq ?_
 refine SW_if (p := (i : Int) < (st.all.length : Int)) (by kernel_rfl) (fun c1 => ?_) (fun c1 => ?_)
 ·have hpl := putsTo_len (l := st.all) hs i (by omega)
  have hsz := (nth st.all i).1.sizes
  have hsi := hs i (by omega)
  have hpv : (nth st.all i).1.provides.length ≤ 4194304 := by have := args_len (nth st.all i).1.provides; unfold PkgT.depSize at hsz; omega
  have hfl : (nth st.all i).1.files.length ≤ 4194304 := by have := files_len (nth st.all i).1.files; omega
  refine SW_skip ?_
  refine SW_seq ?_
  refine SW_block ?_
  refine SW_P [] [0, 3, 4, 25, 26] ?_
  refine SW_H [] [0, 3, 4, 5, 25, 26] [(9, 5)] (hk 2 en_44 (Package_ok st i (by omega) (hs i (by omega))) <| hk0) v0 c0 ?_
  refine SW_P [] [0, 3, 4, 5, 8, 25, 26] ?_
  refine SW_seq ?_
  refine SW_reg ?_
  refine SO_H 7 0 [] [0, 3, 4, 5, 8, 25, 26, 37, 39, 43] [] hk0 v0 c0 ?_
  refine SO_callSv [2, 1, 0] (f := 45) (cap := [(.ptr 2 0)]) (al := [(.str (((nth st.all i).1).name)), (.agg [(.int .i64 ((i : Int))), (.bool true), (.int .i64 2), (.str (((nth st.all i).1).evr))])]) (al' := [(.str (((nth st.all i).1).name)), (.agg [(.int .i64 ((i : Int))), (.bool true), (.int .i64 2), (.str (((nth st.all i).1).evr))]), (.ptr 0 0)]) (r := (.tup [])) (r' := (.tup [])) (s' := [(0, (.fp (poolX st))), (3, (.ptr 2 0)), (4, (.int .i64 ((i : Int)))), (5, (.fp (pkgX ((nth st.all i).1)))), (8, (.fn 45 [] [(.ptr 2 0)])), (25, (.int .i64 ((st.all.length : Int)))), (26, (.int .i64 ((i : Int)))), (37, (.fn 45 [] [(.ptr 2 0)])), (39, (.str (((nth st.all i).1).name))), (43, (.agg [(.int .i64 ((i : Int))), (.bool true), (.int .i64 2), (.str (((nth st.all i).1).evr))])), (44, (.tup []))]) (H := [(0, (.row [(.ptr 1 0)] 32)), (1, (.row [(.int .i64 st.kind), (.int .i64 ((st.all.length : Int))), (.map 2)] 80)), (2, (.mm (offG (putsTo st.all i)) none 84 4))]) (H' := [(0, (.row [(.ptr 1 0)] 32)), (1, (.row [(.int .i64 st.kind), (.int .i64 ((st.all.length : Int))), (.map 2)] 80)), (2, (.mm (offG (putsTo st.all i ++ [((nth st.all i).1.name, (⟨(i : Int), true, 2, (nth st.all i).1.evr⟩ : OfferT))])) none 84 4))]) (h2 := [(0, (.mm (offG (putsTo st.all i ++ [((nth st.all i).1.name, (⟨(i : Int), true, 2, (nth st.all i).1.evr⟩ : OfferT))])) none 84 4)), (1, (.row [(.int .i64 st.kind), (.int .i64 ((st.all.length : Int))), (.map 0)] 80)), (2, (.row [(.ptr 1 0)] 32))]) (by kernel_rfl) (by kernel_rfl) (by exact en_45) (by kernel_rfl) (by kernel_rfl) (by kernel_rfl) (by kernel_rfl) (by kernel_rfl) (put_any st.kind (st.all.length : Int) (putsTo st.all i) ((nth st.all i).1.name) ⟨(i : Int), true, 2, (nth st.all i).1.evr⟩ (Nat.le_trans (offG_len _ _) (by first | (simp only [List.length_append]; have := putsA_len (i := i) (p := (nth st.all i).1) (j := 0); have := putsB_len (i := i) (p := (nth st.all i).1) (j := 0); omega) | omega))) (by kernel_rfl) (by kernel_rfl) (by kernel_rfl) ?_
  refine SO_nil ?_
  refine SW_seq ?_
  refine SW_P [] [0, 3, 4, 5, 8, 25, 26, 46, 47, 48] ?_
  refine SW_block ?_
  refine SW_L (fun g y => ∃ (j : Nat), j ≤ (nth st.all i).1.provides.length ∧ y = ⟨[(0, (.fp (poolX st))), (3, (.ptr 2 0)), (4, (.int .i64 ((i : Int)))), (5, (.fp (pkgX ((nth st.all i).1)))), (8, (.fn 45 [] [(.ptr 2 0)])), (25, (.int .i64 ((st.all.length : Int)))), (26, (.int .i64 ((i : Int)))), (46, (rowOf 5 depX (((nth st.all i).1).provides))), (47, (.int .i64 (((((nth st.all i).1).provides).length : Int)))), (48, (.int .i64 ((j : Int))))], [(0, (.mm (offG (putsTo st.all i ++ putsA i (nth st.all i).1 j)) none 84 4)), (1, (.row [(.int .i64 st.kind), (.int .i64 ((st.all.length : Int))), (.map 0)] 80)), (2, (.row [(.ptr 1 0)] 32))], 4⟩ ∧ g = (nth st.all i).1.provides.length - j) [0, 3, 4, 5, 8, 25, 26, 46, 47, 48] 4 _ (by omega) ⟨0, (by omega), (by kernel_rfl), rfl⟩ ?_
  rintro g2 y2 ⟨j, f2_1, rfl, rfl⟩
  refine SW_P [] [0, 3, 4, 5, 8, 25, 26, 46, 47, 48, 49] ?_
  refine SW_seq ?_
  refine SW_if (p := (j : Int) < ((((nth st.all i).1).provides).length : Int)) (by kernel_rfl) (fun c2 => ?_) (fun c2 => ?_)
  ·refine SW_skip ?_
   refine SW_seq ?_
   refine SW_block ?_
   refine SW_H [] [0, 3, 4, 5, 8, 10, 25, 26, 46, 47, 48] [] hk0 v0 (cc 0 (p := (0 ≤ (j : Int) ∧ j < (((nth st.all i).1).provides).length)) (by first | omega | (simp; omega) | (simp; done) | (intros; simp_all; omega) | (intros; simp_all; done)) <| c0) ?_
   refine SW_reg ?_
   refine SO_H 9 0 [] [0, 3, 4, 5, 8, 25, 26, 46, 47, 48, 52, 54, 60] [(0, 10)] hk0 v0 c0 ?_
   refine SO_callSv [2, 1, 0] (f := 45) (cap := [(.ptr 2 0)]) (al := [(.str ((nth (((nth st.all i).1).provides) j).name)), (.agg [(.int .i64 ((i : Int))), (.bool false), (.int .i64 ((nth (((nth st.all i).1).provides) j).op)), (.str ((nth (((nth st.all i).1).provides) j).evr))])]) (al' := [(.str ((nth (((nth st.all i).1).provides) j).name)), (.agg [(.int .i64 ((i : Int))), (.bool false), (.int .i64 ((nth (((nth st.all i).1).provides) j).op)), (.str ((nth (((nth st.all i).1).provides) j).evr))]), (.ptr 0 0)]) (r := (.tup [])) (r' := (.tup [])) (s' := [(0, (.fp (poolX st))), (3, (.ptr 2 0)), (4, (.int .i64 ((i : Int)))), (5, (.fp (pkgX ((nth st.all i).1)))), (8, (.fn 45 [] [(.ptr 2 0)])), (25, (.int .i64 ((st.all.length : Int)))), (26, (.int .i64 ((i : Int)))), (46, (rowOf 5 depX (((nth st.all i).1).provides))), (47, (.int .i64 (((((nth st.all i).1).provides).length : Int)))), (48, (.int .i64 ((j : Int)))), (52, (.fn 45 [] [(.ptr 2 0)])), (54, (.str ((nth (((nth st.all i).1).provides) j).name))), (60, (.agg [(.int .i64 ((i : Int))), (.bool false), (.int .i64 ((nth (((nth st.all i).1).provides) j).op)), (.str ((nth (((nth st.all i).1).provides) j).evr))])), (61, (.tup []))]) (H := [(0, (.row [(.ptr 1 0)] 32)), (1, (.row [(.int .i64 st.kind), (.int .i64 ((st.all.length : Int))), (.map 2)] 80)), (2, (.mm (offG (putsTo st.all i ++ putsA i (nth st.all i).1 j)) none 84 4))]) (H' := [(0, (.row [(.ptr 1 0)] 32)), (1, (.row [(.int .i64 st.kind), (.int .i64 ((st.all.length : Int))), (.map 2)] 80)), (2, (.mm (offG (putsTo st.all i ++ putsA i (nth st.all i).1 j ++ [((nth (nth st.all i).1.provides j).name, (⟨(i : Int), false, (nth (nth st.all i).1.provides j).op, (nth (nth st.all i).1.provides j).evr⟩ : OfferT))])) none 84 4))]) (h2 := [(0, (.mm (offG (putsTo st.all i ++ putsA i (nth st.all i).1 j ++ [((nth (nth st.all i).1.provides j).name, (⟨(i : Int), false, (nth (nth st.all i).1.provides j).op, (nth (nth st.all i).1.provides j).evr⟩ : OfferT))])) none 84 4)), (1, (.row [(.int .i64 st.kind), (.int .i64 ((st.all.length : Int))), (.map 0)] 80)), (2, (.row [(.ptr 1 0)] 32))]) (by kernel_rfl) (by kernel_rfl) (by exact en_45) (by kernel_rfl) (by kernel_rfl) (by kernel_rfl) (by kernel_rfl) (by kernel_rfl) (put_any st.kind (st.all.length : Int) (putsTo st.all i ++ putsA i (nth st.all i).1 j) ((nth (nth st.all i).1.provides j).name) ⟨(i : Int), false, (nth (nth st.all i).1.provides j).op, (nth (nth st.all i).1.provides j).evr⟩ (Nat.le_trans (offG_len _ _) (by first | (simp only [List.length_append]; have := putsA_len (i := i) (p := (nth st.all i).1) (j := j); have := putsB_len (i := i) (p := (nth st.all i).1) (j := j); omega) | omega))) (by kernel_rfl) (by kernel_rfl) (by kernel_rfl) ?_
   refine SO_nil ?_
   refine SW_reg ?_
   refine SO_HA 0 [] [0, 3, 4, 5, 8, 25, 26, 46, 47, 48] [] hk0 v0 (cc 0 (p := (-9223372036854775808 ≤ (j : Int) + 1 ∧ (j : Int) + 1 ≤ 9223372036854775807)) (by first | omega | (simp; omega) | (simp; done) | (intros; simp_all; omega) | (intros; simp_all; done)) <| c0) ?_
   refine ⟨by kernel_rfl, _, ?_, j + 1, ?_, (Eq.trans (b := (⟨[(0, (.fp (poolX st))), (3, (.ptr 2 0)), (4, (.int .i64 ((i : Int)))), (5, (.fp (pkgX ((nth st.all i).1)))), (8, (.fn 45 [] [(.ptr 2 0)])), (25, (.int .i64 ((st.all.length : Int)))), (26, (.int .i64 ((i : Int)))), (46, (rowOf 5 depX (((nth st.all i).1).provides))), (47, (.int .i64 (((((nth st.all i).1).provides).length : Int)))), (48, (.int .i64 ((j : Int) + 1)))], [(0, (.mm (offG (putsTo st.all i ++ putsA i (nth st.all i).1 j ++ [((nth (nth st.all i).1.provides j).name, (⟨(i : Int), false, (nth (nth st.all i).1.provides j).op, (nth (nth st.all i).1.provides j).evr⟩ : OfferT))])) none 84 4)), (1, (.row [(.int .i64 st.kind), (.int .i64 ((st.all.length : Int))), (.map 0)] 80)), (2, (.row [(.ptr 1 0)] 32))], 4⟩ : St)) (by kernel_rfl) (by rw [putsA_next (by omega), ← List.append_assoc] <;> kernel_rfl)), rfl⟩
   ·omega
   ·omega
  ·refine SW_exit ?_
   refine SW_P [] [0, 3, 4, 8, 25, 26, 64, 65, 66] ?_
   refine SW_block ?_
   refine SW_L (fun g y => ∃ (j : Nat), j ≤ (nth st.all i).1.files.length ∧ y = ⟨[(0, (.fp (poolX st))), (3, (.ptr 2 0)), (4, (.int .i64 ((i : Int)))), (8, (.fn 45 [] [(.ptr 2 0)])), (25, (.int .i64 ((st.all.length : Int)))), (26, (.int .i64 ((i : Int)))), (64, (strs (((nth st.all i).1).files))), (65, (.int .i64 (((((nth st.all i).1).files).length : Int)))), (66, (.int .i64 ((j : Int))))], [(0, (.mm (offG (putsTo st.all i ++ putsB i (nth st.all i).1 j)) none 84 4)), (1, (.row [(.int .i64 st.kind), (.int .i64 ((st.all.length : Int))), (.map 0)] 80)), (2, (.row [(.ptr 1 0)] 32))], 4⟩ ∧ g = (nth st.all i).1.files.length - j) [0, 3, 4, 8, 25, 26, 64, 65, 66] 4 _ (by omega) ⟨0, (by omega), (Eq.trans (b := (⟨[(0, (.fp (poolX st))), (3, (.ptr 2 0)), (4, (.int .i64 ((i : Int)))), (8, (.fn 45 [] [(.ptr 2 0)])), (25, (.int .i64 ((st.all.length : Int)))), (26, (.int .i64 ((i : Int)))), (64, (strs (((nth st.all i).1).files))), (65, (.int .i64 (((((nth st.all i).1).files).length : Int)))), (66, (.int .i64 0))], [(0, (.mm (offG (putsTo st.all i ++ putsA i (nth st.all i).1 j)) none 84 4)), (1, (.row [(.int .i64 st.kind), (.int .i64 ((st.all.length : Int))), (.map 0)] 80)), (2, (.row [(.ptr 1 0)] 32))], 4⟩ : St)) (by kernel_rfl) (by rw [show putsB i (nth st.all i).1 0 = putsA i (nth st.all i).1 (nth st.all i).1.provides.length from by simp [putsB], show (nth st.all i).1.provides.length = j from by omega] <;> kernel_rfl)), rfl⟩ ?_
   rintro g3 y3 ⟨j, f3_1, rfl, rfl⟩
   refine SW_P [] [0, 3, 4, 8, 25, 26, 64, 65, 66, 67] ?_
   refine SW_seq ?_
   refine SW_if (p := (j : Int) < ((((nth st.all i).1).files).length : Int)) (by kernel_rfl) (fun c3 => ?_) (fun c3 => ?_)
   ·refine SW_skip ?_
    refine SW_seq ?_
    refine SW_block ?_
    refine SW_H [] [0, 3, 4, 8, 12, 25, 26, 64, 65, 66] [] hk0 v0 (cc 0 (p := (0 ≤ (j : Int) ∧ j < (((nth st.all i).1).files).length)) (by first | omega | (simp; omega) | (simp; done) | (intros; simp_all; omega) | (intros; simp_all; done)) <| c0) ?_
    refine SW_reg ?_
    refine SO_H 4 0 [] [0, 3, 4, 8, 25, 26, 64, 65, 66, 70, 71, 73] [] hk0 v0 c0 ?_
    refine SO_callSv [2, 1, 0] (f := 45) (cap := [(.ptr 2 0)]) (al := [(.str (nth (((nth st.all i).1).files) j)), (.agg [(.int .i64 ((i : Int))), (.bool false), (.int .i64 0), (.str [])])]) (al' := [(.str (nth (((nth st.all i).1).files) j)), (.agg [(.int .i64 ((i : Int))), (.bool false), (.int .i64 0), (.str [])]), (.ptr 0 0)]) (r := (.tup [])) (r' := (.tup [])) (s' := [(0, (.fp (poolX st))), (3, (.ptr 2 0)), (4, (.int .i64 ((i : Int)))), (8, (.fn 45 [] [(.ptr 2 0)])), (25, (.int .i64 ((st.all.length : Int)))), (26, (.int .i64 ((i : Int)))), (64, (strs (((nth st.all i).1).files))), (65, (.int .i64 (((((nth st.all i).1).files).length : Int)))), (66, (.int .i64 ((j : Int)))), (70, (.fn 45 [] [(.ptr 2 0)])), (71, (.str (nth (((nth st.all i).1).files) j))), (73, (.agg [(.int .i64 ((i : Int))), (.bool false), (.int .i64 0), (.str [])])), (74, (.tup []))]) (H := [(0, (.row [(.ptr 1 0)] 32)), (1, (.row [(.int .i64 st.kind), (.int .i64 ((st.all.length : Int))), (.map 2)] 80)), (2, (.mm (offG (putsTo st.all i ++ putsB i (nth st.all i).1 j)) none 84 4))]) (H' := [(0, (.row [(.ptr 1 0)] 32)), (1, (.row [(.int .i64 st.kind), (.int .i64 ((st.all.length : Int))), (.map 2)] 80)), (2, (.mm (offG (putsTo st.all i ++ putsB i (nth st.all i).1 j ++ [(nth (nth st.all i).1.files j, (⟨(i : Int), false, 0, []⟩ : OfferT))])) none 84 4))]) (h2 := [(0, (.mm (offG (putsTo st.all i ++ putsB i (nth st.all i).1 j ++ [(nth (nth st.all i).1.files j, (⟨(i : Int), false, 0, []⟩ : OfferT))])) none 84 4)), (1, (.row [(.int .i64 st.kind), (.int .i64 ((st.all.length : Int))), (.map 0)] 80)), (2, (.row [(.ptr 1 0)] 32))]) (by kernel_rfl) (by kernel_rfl) (by exact en_45) (by kernel_rfl) (by kernel_rfl) (by kernel_rfl) (by kernel_rfl) (by kernel_rfl) (put_any st.kind (st.all.length : Int) (putsTo st.all i ++ putsB i (nth st.all i).1 j) (nth (nth st.all i).1.files j) ⟨(i : Int), false, 0, []⟩ (Nat.le_trans (offG_len _ _) (by first | (simp only [List.length_append]; have := putsA_len (i := i) (p := (nth st.all i).1) (j := j); have := putsB_len (i := i) (p := (nth st.all i).1) (j := j); omega) | omega))) (by kernel_rfl) (by kernel_rfl) (by kernel_rfl) ?_
    refine SO_nil ?_
    refine SW_reg ?_
    refine SO_HA 0 [] [0, 3, 4, 8, 25, 26, 64, 65, 66] [] hk0 v0 (cc 0 (p := (-9223372036854775808 ≤ (j : Int) + 1 ∧ (j : Int) + 1 ≤ 9223372036854775807)) (by first | omega | (simp; omega) | (simp; done) | (intros; simp_all; omega) | (intros; simp_all; done)) <| c0) ?_
    refine ⟨by kernel_rfl, _, ?_, j + 1, ?_, (Eq.trans (b := (⟨[(0, (.fp (poolX st))), (3, (.ptr 2 0)), (4, (.int .i64 ((i : Int)))), (8, (.fn 45 [] [(.ptr 2 0)])), (25, (.int .i64 ((st.all.length : Int)))), (26, (.int .i64 ((i : Int)))), (64, (strs (((nth st.all i).1).files))), (65, (.int .i64 (((((nth st.all i).1).files).length : Int)))), (66, (.int .i64 ((j : Int) + 1)))], [(0, (.mm (offG (putsTo st.all i ++ putsB i (nth st.all i).1 j ++ [(nth (nth st.all i).1.files j, (⟨(i : Int), false, 0, []⟩ : OfferT))])) none 84 4)), (1, (.row [(.int .i64 st.kind), (.int .i64 ((st.all.length : Int))), (.map 0)] 80)), (2, (.row [(.ptr 1 0)] 32))], 4⟩ : St)) (by kernel_rfl) (by rw [putsB_next (by omega), ← List.append_assoc] <;> kernel_rfl)), rfl⟩
    ·omega
    ·omega
   ·refine SW_exit ?_
    refine SW_reg ?_
    refine SO_HA 0 [] [0, 3, 25, 26] [] hk0 v0 (cc 0 (p := (-9223372036854775808 ≤ (i : Int) + 1 ∧ (i : Int) + 1 ≤ 9223372036854775807)) (by first | omega | (simp; omega) | (simp; done) | (intros; simp_all; omega) | (intros; simp_all; done)) <| c0) ?_
    refine ⟨by kernel_rfl, _, ?_, i + 1, ?_, (Eq.trans (b := (⟨[(0, (.fp (poolX st))), (3, (.ptr 2 0)), (25, (.int .i64 ((st.all.length : Int)))), (26, (.int .i64 ((i : Int) + 1)))], [(0, (.mm (offG (putsTo st.all i ++ putsB i (nth st.all i).1 j)) none 84 4)), (1, (.row [(.int .i64 st.kind), (.int .i64 ((st.all.length : Int))), (.map 0)] 80)), (2, (.row [(.ptr 1 0)] 32))], 3⟩ : St)) (by kernel_rfl) (by rw [putsTo_next, show putsOf i (nth st.all i).1 = putsB i (nth st.all i).1 j from by unfold putsOf; rw [show (nth st.all i).1.files.length = j from by omega]] <;> kernel_rfl)), rfl⟩
    ·omega
    ·omega
 ·refine SW_exit ?_
  refine SW_seq ?_
  refine SW_reg ?_
  refine SO_stillC 1 2 (y := ⟨[(0, (.fp (poolX st))), (3, (.ptr 2 0)), (25, (.int .i64 ((st.all.length : Int)))), (26, (.int .i64 ((i : Int)))), (27, (.bool (decide ((i : Int) < (st.all.length : Int)))))], [(1, (.row [(.int .i64 st.kind), (.int .i64 ((st.all.length : Int))), (.smap (.slice none 0 0) (fun kq => .row 4 ((offG (putsTo st.all i)) kq).length (fun ix => ((offG (putsTo st.all i)) kq).getD ix junk)))] 80)), (2, (.row [(.ptr 1 0)] 32))], 3⟩) (by kernel_rfl) ?_
  refine SO_P [] [2] ?_
  refine SW_ret ?_
  refine RK wR [(.fp (.agg [(.int .i64 st.kind), (.int .i64 ((st.all.length : Int))), (.smap (.slice none 0 0) (fun kq => .row 4 ((offG (putsTo st.all i)) kq).length (fun ix => ((offG (putsTo st.all i)) kq).getD ix junk)))]))] ?_
  rw [show i = st.all.length from by omega]
  exact Same.of_eq rfl
end Sv
end Go.Proofs.YtlfjokcbkopfeaaGreatDoor
end
section
namespace Go.Proofs.YtlfjokcbkopfeaaGreatDoor
open Go Go.RowKit
set_option linter.unusedSimpArgs false
set_option linter.unusedVariables false
namespace Sv
theorem ints_vals {φ : Phi} : ∀ {l : List Int} {vs : List Value}, VRl φ (l.map (AV.int .i64)) vs → vs = l.map (Value.int .i64)
  | [], vs, h => h.nil_inv
  | x :: l, vs, h => by
    obtain ⟨v, vs', rfl, h1, h2⟩ := h.cons_inv
    simp only [VR] at h1
    rw [ints_vals h2, h1]; rfl
theorem vals_ints {φ : Phi} : ∀ l : List Int, VRl φ (l.map (AV.int .i64)) (l.map (Value.int .i64))
  | [] => .nil
  | x :: l => .cons (by simp only [VR]) (vals_ints l)
theorem flat_ints (l : List Int) : (l.map (Value.int .i64)).flatMap (fun u => u.cells.toList) = l.map (Value.int .i64) := by
  induction l with
  | nil => rfl
  | cons x l ih => rw [List.map_cons, List.flatMap_cons, ih]; first | done | rfl
theorem cells_ints (l : List Int) : ∀ u ∈ l.map (Value.int .i64), u.cells.size = 1 ∧ ∀ c ∈ u.cells.toList, c.oneCell' = true := by
  intro u hu
  obtain ⟨x, _, rfl⟩ := List.mem_map.1 hu
  exact ⟨rfl, fun c hc => by simp [Value.cells] at hc; subst hc; rfl⟩
theorem Rel.rebaseI {B : Bas} {φ : Phi} {h : AH} {w : World} (r : Rel B φ h w) : Rel (basH φ h w) φ h w :=
  ⟨⟨rfl, rfl, rfl, Nat.le_refl _, fun _ _ => rfl⟩, r.fro, fun b o e => by have := r.obj b o e; cases o <;> exact this, r.sep, fun b o k e i => ⟨fun q => q.2 b o e i, (r.gf b o k e i).2⟩⟩
theorem compactI_le (zs : List Int) : (Lib.compact zs).length ≤ zs.length := by
  have : ∀ m, (Lib.compactUpTo zs.toArray m).length ≤ m := by
    intro m
    induction m with
    | zero => simp [Lib.compactUpTo]
    | succ m ih =>
      rw [Lib.compactUpTo_succ, List.length_append]
      split <;> simp <;> omega
  exact this _
theorem compactI_any (l : List Int) (hl : l.length ≤ 4611686018427) :
    CallS Tryz.prog 118 [.own 0] [(0, .grow (l.map (AV.int .i64)) 3 1)] 1 (.own 0) [(0, .grow ((Lib.compact l).map (AV.int .i64)) 3 1)] := by
  intro B0 φ w vs r hv
  obtain ⟨v, rfl, hv1⟩ := hv.single_inv
  simp only [VR] at hv1
  obtain ⟨v0, us, q1, q2, q3, q4⟩ := r.obj 0 _ rfl
  rw [hv1.1] at q1; cases q1
  have hu := ints_vals q3
  subst hu
  rw [flat_ints, List.length_map] at q2
  have hr := r.rebaseI
  rcases q2.2 with ⟨rfl, hn⟩ | ⟨g, cap, cur, rfl, hg1, hg2, hg3, hg4, hg5, hg6⟩
  · have hl0 : l = [] := List.length_eq_zero_iff.1 hn
    subst hl0
    refine (Tryz.slices_Compact_int_empty none 0 w).mono ?_
    rintro e w' ⟨he, rfl⟩
    exact ⟨_, he, φ, hr, by simp only [VR]; exact hv1, fun _ _ _ e => e, fun _ _ e => e, fun _ _ e => .inl e⟩
  · have hh : Go.Sort.Holds (Value.int .i64) w g 0 l.toArray := holds_of_blockI hg2 (by simpa using hg6)
    refine (Tryz.slices_Compact_int g 0 cap l w hh (by omega) hg3).mono ?_
    rintro e w' ⟨he, n, rfl⟩
    have hgr := grownBy_sortedI (w := w) (g := g) (n := n) (os := #[]) (Lib.compact l ++ List.replicate (l.length - (Lib.compact l).length) 0).toArray
    rw [Go.Sort.grow_empty] at hgr
    have hle := compactI_le l
    have hts : (Lib.compact l ++ List.replicate (l.length - (Lib.compact l).length) (0 : Int)).length = l.length := by simp; omega
    have ho := ownsRow_sortedI (n := n) (os := #[]) (base := 0) (ts := Lib.compact l ++ List.replicate (l.length - (Lib.compact l).length) 0) (ss := l) hts hg1 hg2 hg3 hg4 (by simpa using hg5)
    rw [Go.Sort.grow_empty] at ho
    refine ⟨_, he, ⟨φ.m, fun i => if i = 0 then some (.slice (some ⟨g, 0, none⟩) (Lib.compact l).length cap) else φ.s i, φ.f⟩, ?_, by simp only [VR]; exact ⟨rfl, _, _, _, rfl⟩, fun _ _ _ e => e, fun _ _ e => e, fun _ _ e => .inl e⟩
    have ht : Turn φ ⟨φ.m, fun i => if i = 0 then some (.slice (some ⟨g, 0, none⟩) (Lib.compact l).length cap) else φ.s i, φ.f⟩ 0 := ⟨fun _ => rfl, fun c hc => if_neg hc, fun _ _ e => e⟩
    refine Rel.grown (v' := .slice (some ⟨g, 0, none⟩) (Lib.compact l).length cap) (es' := (Lib.compact l).map (AV.int .i64)) hr (b := 0) rfl hv1.1 ht rfl rfl hgr (.inl rfl) (fun k hk => by cases hk; exact Nat.lt_of_lt_of_le (block_lt hg2) hgr.size) ⟨_, (Lib.compact l).map (Value.int .i64), rfl, ?_, vals_ints _, cells_ints _⟩
    rw [flat_ints, List.length_map]
    refine ⟨by simp, .inr ⟨g, cap, Go.Sort.putCells (Value.int .i64) 0 (Lib.compact l ++ List.replicate (l.length - (Lib.compact l).length) 0).toArray cur, rfl, hg1, ?_, by omega, hg4, by simp [Go.Sort.putCells, hg5], ?_⟩⟩
    · have := heap_sortedI (w := w) (g := g) (n := n) (os := #[]) (Lib.compact l ++ List.replicate (l.length - (Lib.compact l).length) 0).toArray hg2
      rw [Go.Sort.grow_empty] at this; exact this
    · have := take_putCellsI cur (Lib.compact l ++ List.replicate (l.length - (Lib.compact l).length) 0) (by rw [hts, hg5]; omega)
      have := congrArg (List.take (Lib.compact l).length) this
      rw [List.take_take, Nat.min_eq_left (by rw [hts]; exact hle), List.map_append, List.take_append_of_le_length (by simp), List.take_of_length_le (l := (Lib.compact l).map (Value.int .i64)) (by simp)] at this
      rw [Nat.mul_one]; exact this
end Sv
end Go.Proofs.YtlfjokcbkopfeaaGreatDoor
end
section
namespace Go.Proofs.YtlfjokcbkopfeaaGreatDoor
open Go Go.RowKit
namespace Sv
attribute [local irreducible] SW SO holds
theorem en_117 : Enters Tryz.prog 117 := enters_of Tryz.func117 (by kernel_rfl) rfl
theorem en_57 : Enters Tryz.prog 57 := enters_of Tryz.func57 (by kernel_rfl) rfl
theorem en_119 : Enters Tryz.prog 119 := enters_of Tryz.func119 (by kernel_rfl) rfl
theorem en_59 : Enters Tryz.prog 59 := enters_of Tryz.func59 (by kernel_rfl) rfl
theorem en_118 : Enters Tryz.prog 118 := enters_of Tryz.func118 (by kernel_rfl) rfl
theorem en_159 : Enters Tryz.prog 159 := enters_of Tryz.func159 (by kernel_rfl) rfl
theorem en_128 : Enters Tryz.prog 128 := enters_of Tryz.func128 (by kernel_rfl) rfl
theorem en_78 : Enters Tryz.prog 78 := enters_of Tryz.func78 (by kernel_rfl) rfl
theorem off_imp (ps : List (List UInt8 × OfferT)) (s : List UInt8) : Imp (.row 4 (offG ps s).length (fun i => (offG ps s).getD i junk)) (rowOf 4 offX (offL ps s)) := Imp.list (f := offX) (List.length_map _)
def MeetsOk (m : Int → Int → List UInt8 → Int → List UInt8 → Bool × Int) : Prop := ∀ k op a o b, a.length ≤ 4194304 → b.length ≤ 4194304 → FnV Tryz.prog 159 [.int .i64 k, .int .i64 op, .str a, .int .i64 o, .str b] (.tup [.bool (m k op a o b).1, .int .i64 (m k op a o b).2])
def fitsB (m : Int → Int → List UInt8 → Int → List UInt8 → Bool × Int) (k : Int) (d : DepT) (o : OfferT) : Bool := if d.op = 0 ∨ o.op = 0 then decide (d.op = 0) else (m k d.op d.evr o.op o.evr).1
def IdxOk (st : PoolT) : Prop := st.all.length ≤ 200 ∧ ∀ i, i < st.all.length → (nth st.all i).1.size ≤ 4194304
theorem IdxOk.len {st : PoolT} (h : IdxOk st) (s : List UInt8) : (offL (putsTo st.all st.all.length) s).length ≤ 2147483648 := by
 have h1 := putsTo_len h.2 st.all.length (Nat.le_refl _)
 have h2 := offG_len (putsTo st.all st.all.length) s
 have h3 : (offG (putsTo st.all st.all.length) s).length = (offL (putsTo st.all st.all.length) s).length := List.length_map _
 have := h.1
 omega
theorem nth_at {α : Type} [Inhabited α] {l : List α} {j : Nat} (h : j < l.length) : nth l j = l[j] := by simp [nth, h]
theorem puts_evr {st : PoolT} (h : IdxOk st) {q : List UInt8 × OfferT} (hq : q ∈ putsTo st.all st.all.length) : q.2.evr.length ≤ 4194304 := by
 unfold putsTo at hq
 obtain ⟨i, hi, hq⟩ := List.mem_flatMap.1 hq
 have hi : i < st.all.length := by simpa using hi
 have h1 := h.2 i hi
 have h2 := (nth st.all i).1.sizes
 unfold putsOf putsB putsA at hq
 simp only [List.take_length, List.cons_append, List.mem_cons, List.mem_append, List.mem_map] at hq
 rcases hq with rfl | ⟨d, hd, rfl⟩ | ⟨x, hx, rfl⟩
 ·show (nth st.all i).1.evr.length ≤ _; omega
 ·obtain ⟨j, hj, rfl⟩ := List.getElem_of_mem hd
  have h3 := argsSize_nth (l := (nth st.all i).1.provides) (i := j) hj
  have h4 := size_args (nth (nth st.all i).1.provides j)
  have h5 : argsSize (nth st.all i).1.provides ≤ (nth st.all i).1.depSize := by unfold PkgT.depSize; omega
  have h6 : nth (nth st.all i).1.provides j = (nth st.all i).1.provides[j] := nth_at hj
  rw [h6] at h3 h4
  show (nth st.all i).1.provides[j].evr.length ≤ _
  omega
 ·exact Nat.zero_le _
theorem IdxOk.evr {st : PoolT} (h : IdxOk st) {s : List UInt8} {i : Nat} (hi : i < (offL (putsTo st.all st.all.length) s).length) : (nth (offL (putsTo st.all st.all.length) s) i).evr.length ≤ 4194304 := by
 have hm : nth (offL (putsTo st.all st.all.length) s) i ∈ offL (putsTo st.all st.all.length) s := by
  have : nth (offL (putsTo st.all st.all.length) s) i = (offL (putsTo st.all st.all.length) s)[i] := by simp [nth, hi]
  rw [this]; exact List.getElem_mem hi
 obtain ⟨q, hq, e⟩ := List.mem_map.1 hm
 rw [← e]; exact puts_evr h (List.mem_filter.1 hq).1
def hitB (m : Int → Int → List UInt8 → Int → List UInt8 → Bool × Int) (st : PoolT) (d : DepT) (own : Bool) (o : OfferT) : Bool := (o.own || !own) && fitsB m st.kind d o
def hitsTo (m : Int → Int → List UInt8 → Int → List UInt8 → Bool × Int) (st : PoolT) (d : DepT) (own : Bool) (i : Nat) : List Int := (((offL (putsTo st.all st.all.length) d.name).take i).filter (hitB m st d own)).map fun o => o.id
def namedL (m : Int → Int → List UInt8 → Int → List UInt8 → Bool × Int) (st : PoolT) (d : DepT) (own : Bool) : List Int := Lib.compact (hitsTo m st d own (offL (putsTo st.all st.all.length) d.name).length)
theorem hitsTo_next {m : Int → Int → List UInt8 → Int → List UInt8 → Bool × Int} {st : PoolT} {d : DepT} {own : Bool} {i : Nat} (h : i < (offL (putsTo st.all st.all.length) d.name).length) : hitsTo m st d own (i + 1) = hitsTo m st d own i ++ (if hitB m st d own (nth (offL (putsTo st.all st.all.length) d.name) i) = true then [(nth (offL (putsTo st.all st.all.length) d.name) i).id] else []) := by
 unfold hitsTo
 rw [List.take_add_one, List.getElem?_eq_getElem h, List.filter_append, List.map_append]
 congr 1
 have : nth (offL (putsTo st.all st.all.length) d.name) i = (offL (putsTo st.all st.all.length) d.name)[i] := by simp [nth, h]
 rw [this]
 cases hc : hitB m st d own (offL (putsTo st.all st.all.length) d.name)[i] <;> simp [hc]
theorem hitsTo_len {m : Int → Int → List UInt8 → Int → List UInt8 → Bool × Int} {st : PoolT} {d : DepT} {own : Bool} {i : Nat} : (hitsTo m st d own i).length ≤ (offL (putsTo st.all st.all.length) d.name).length := by
 unfold hitsTo
 rw [List.length_map]
 exact Nat.le_trans (List.length_filter_le _ _) (by simp; omega)
theorem hits_yes {m : Int → Int → List UInt8 → Int → List UInt8 → Bool × Int} {st : PoolT} {d : DepT} {own : Bool} {i : Nat} (h : i < (offL (putsTo st.all st.all.length) d.name).length) (hc : hitB m st d own (nth (offL (putsTo st.all st.all.length) d.name) i) = true) : (hitsTo m st d own (i + 1)).map (AV.int .i64) = (hitsTo m st d own i).map (AV.int .i64) ++ [.int .i64 (nth (offL (putsTo st.all st.all.length) d.name) i).id] := by
 rw [hitsTo_next h, if_pos hc, List.map_append]; rfl
theorem hits_no {m : Int → Int → List UInt8 → Int → List UInt8 → Bool × Int} {st : PoolT} {d : DepT} {own : Bool} {i : Nat} (h : i < (offL (putsTo st.all st.all.length) d.name).length) (hc : hitB m st d own (nth (offL (putsTo st.all st.all.length) d.name) i) = false) : hitsTo m st d own (i + 1) = hitsTo m st d own i := by
 rw [hitsTo_next h, if_neg (by rw [hc]; simp), List.append_nil]
set_option maxHeartbeats 400000 in
set_option maxRecDepth 100000 in
theorem intF_idx (l : List Int) (a : AV) (p : Int → Bool) (hl : l.length ≤ 4611686018427387904) (ha : ∀ i, i < l.length → FunV Tryz.prog a [(.int .i64 (nth l i))] (.bool (p (nth l i)))) :
  FnV Tryz.prog 119 [(nums l), (.clo a)] (.int .i64 (idxF p l)) := by
 refine FnV_intro [.tmp 4] Tryz.func119 rfl Tryz.ntmps119 rfl rfl (fun B F hF => ?_)
 refine SW_P [] [0, 1] ?_
 refine SW_seq ?_
 refine SW_P [] [0, 1, 7, 8] ?_
 refine SW_block ?_
 refine SW_L (fun g y => ∃ (i : Nat), i ≤ l.length ∧ (∀ j, j < i → p (nth l j) = false) ∧ y = ⟨[(0, (nums l)), (1, (.clo a)), (7, (.int .i64 ((l.length : Int)))), (8, (.int .i64 ((i : Int))))], [], 0⟩ ∧ g = l.length - i) [0, 1, 7, 8] 0 _ (by omega) ⟨0, (by omega), (by exact fun j hj => by omega), (by kernel_rfl), rfl⟩ ?_
 rintro g1 y1 ⟨i, f1_1, f1_2, rfl, rfl⟩
 refine SW_P [] [0, 1, 7, 8, 9] ?_
 refine SW_seq ?_
 refine SW_if (p := (i : Int) < (l.length : Int)) (by kernel_rfl) (fun c1 => ?_) (fun c1 => ?_)
 ·refine SW_skip ?_
  refine SW_seq ?_
  refine SW_block ?_
  refine SW_P [] [0, 1, 5, 7, 8] ?_
  refine SW_seq ?_
  refine SW_reg ?_
  refine SO_H 5 0 [] [0, 1, 5, 7, 8, 11, 15] [] hk0 v0 (cc 3 (p := (0 ≤ (i : Int) ∧ i < l.length)) (by first | omega | (simp; omega) | (simp; done) | (intros; simp_all; omega) | (intros; simp_all; done)) <| c0) ?_
  refine SO_callA (s' := [(0, (nums l)), (1, (.clo a)), (5, (.int .i64 ((i : Int)))), (7, (.int .i64 ((l.length : Int)))), (8, (.int .i64 ((i : Int)))), (11, (.clo a)), (15, (.int .i64 (nth l i))), (16, (.bool (p (nth l i))))]) (a := (.clo a)) (al := [(.int .i64 (nth l i))]) (r := (.bool (p (nth l i)))) (by kernel_rfl) (by kernel_rfl) (by kernel_rfl) (by kernel_rfl) (by kernel_rfl) ((ha i (by omega)).clo) (by kernel_rfl) ?_
  refine SO_nil ?_
  refine SW_cond (q := p (nth l i)) (by kernel_rfl) (fun c2 => ?_) (fun c2 => ?_)
  ·try simp only [Bool.and_eq_true, Bool.or_eq_true, Bool.and_eq_false_iff, Bool.or_eq_false_iff, Bool.not_eq_true', Bool.not_eq_false', decide_eq_true_eq, decide_eq_false_iff_not] at c2
   refine SW_P [] [4] ?_
   refine SW_ret ?_
   refine RK wR [(.int .i64 ((i : Int)))] ?_
   exact Same.of_eq (by rw [idxF_at (by omega) f1_2 (by simp_all)]; rfl)
  ·try simp only [Bool.and_eq_true, Bool.or_eq_true, Bool.and_eq_false_iff, Bool.or_eq_false_iff, Bool.not_eq_true', Bool.not_eq_false', decide_eq_true_eq, decide_eq_false_iff_not] at c2
   refine SW_skip ?_
   refine SW_reg ?_
   refine SO_HA 0 [] [0, 1, 7, 8] [] hk0 v0 (cc 0 (p := (-9223372036854775808 ≤ (i : Int) + 1 ∧ (i : Int) + 1 ≤ 9223372036854775807)) (by first | omega | (simp; omega) | (simp; done) | (intros; simp_all; omega) | (intros; simp_all; done)) <| c0) ?_
   refine ⟨by kernel_rfl, _, ?_, i + 1, ?_, ?_, (by kernel_rfl), rfl⟩
   ·omega
   ·omega
   ·intro j hj
    by_cases h : j = i
    ·subst h; simp_all
    ·exact f1_2 j (by omega)
 ·refine SW_exit ?_
  refine SW_P [] [4] ?_
  refine SW_ret ?_
  refine RK wR [(.int .i64 (-1))] ?_
  exact Same.of_eq (by rw [idxF_no (fun j hj => f1_2 j (by omega))]; rfl)
set_option maxHeartbeats 400000 in
set_option maxRecDepth 100000 in
theorem intF_has (l : List Int) (a : AV) (p : Int → Bool) (hl : l.length ≤ 4611686018427387904) (ha : ∀ i, i < l.length → FunV Tryz.prog a [(.int .i64 (nth l i))] (.bool (p (nth l i)))) :
  FnV Tryz.prog 59 [(nums l), (.clo a)] (.bool (l.any p)) := by
 refine FnV_intro [.tmp 4] Tryz.func59 rfl Tryz.ntmps59 rfl rfl (fun B F hF => ?_)
 refine SW_P [] [0, 1] ?_
 refine SW_H [] [4] [] (hk 2 en_119 (intF_idx l a p hl ha) <| hk0) v0 c0 ?_
 refine SW_ret ?_
 refine RK wR [(.bool (decide (0 ≤ (idxF p l))))] ?_
 exact Same.of_eq (by simp only [pack]; rw [idxF_any])
set_option maxHeartbeats 400000 in
set_option maxRecDepth 100000 in
theorem fits_ok (m : Int → Int → List UInt8 → Int → List UInt8 → Bool × Int) (hM : MeetsOk m) (st : PoolT) (d : DepT) (o : OfferT) (hd : d.size ≤ 4194304) (ho : o.evr.length ≤ 4194304) :
  FnV Tryz.prog 117 [(.fp (indexX st)), (.agg [(.int .i64 d.kind), (.str d.name), (.int .i64 d.op), (.str d.evr), (.row 5 d.args.length (depAt d.args))]), (.agg [(.int .i64 o.id), (.bool o.own), (.int .i64 o.op), (.str o.evr)])] (.bool (fitsB m st.kind d o)) := by
 have hda := size_args d
 refine FnV_intro [.tmp 6] Tryz.func117 rfl Tryz.ntmps117 rfl rfl (fun B F hF => ?_)
 refine SW_H [] [0, 4, 5] [(1, 4), (2, 5)] hk0 v0 c0 ?_
 refine SW_seq ?_
 obtain ⟨b1, hb1⟩ : ∃ b, b = (decide (d.op = 0)) := ⟨_, rfl⟩
 refine SW_H (CS := [(5, ((!b1) = true → (!b1) = true)), (6, ((!b1) = true → (!b1) = true)), (7, (b1 = false → (!b1) = true))]) [13, 14, 15] [0, 4, 5, 16] [] hk0 (vk 4 12 (a := .bool (decide (d.op = 0))) (b := .bool b1) (Imp.of_eq (by rw [hb1])) <| v0) (by refine cc _ ?_ <| cc _ ?_ <| cc _ ?_ c0 <;> first | omega | (simp; omega) | (simp; done) | (intros; simp_all; omega) | (intros; simp_all; done)) ?_
 refine SW_cond (q := b1 || (decide (o.op = 0))) (by kernel_rfl) (fun c1 => ?_) (fun c1 => ?_)
 ·subst hb1
  try simp only [Bool.and_eq_true, Bool.or_eq_true, Bool.and_eq_false_iff, Bool.or_eq_false_iff, Bool.not_eq_true', Bool.not_eq_false', decide_eq_true_eq, decide_eq_false_iff_not] at c1
  refine SW_P [] [6] ?_
  refine SW_ret ?_
  refine RK wR [(.bool (decide (d.op = 0)))] ?_
  exact Same.of_eq (by simp only [pack]; unfold fitsB; rw [if_pos (by simpa using c1)])
 ·subst hb1
  try simp only [Bool.and_eq_true, Bool.or_eq_true, Bool.and_eq_false_iff, Bool.or_eq_false_iff, Bool.not_eq_true', Bool.not_eq_false', decide_eq_true_eq, decide_eq_false_iff_not] at c1
  refine SW_skip ?_
  refine SW_D [] [7] [] (hk 12 en_159 (hM st.kind d.op d.evr o.op o.evr (by omega) ho) <| hk0) v0 c0 ?_
  refine SW_P [] [6] ?_
  refine SW_ret ?_
  refine RK wR [(.bool ((m st.kind d.op d.evr o.op o.evr).1))] ?_
  exact Same.of_eq (by simp only [pack]; unfold fitsB; rw [if_neg (by simpa using c1)])
set_option maxHeartbeats 1000000 in
set_option maxRecDepth 100000 in
theorem named_ok (m : Int → Int → List UInt8 → Int → List UInt8 → Bool × Int) (hM : MeetsOk m) (st : PoolT) (hi : IdxOk st) (d : DepT) (own : Bool) (hd : d.size ≤ 4194304) :
  FnV Tryz.prog 57 [(.fp (indexX st)), (.agg [(.int .i64 d.kind), (.str d.name), (.int .i64 d.op), (.str d.evr), (.row 5 d.args.length (depAt d.args))]), (.bool own)] (nums (namedL m st d own)) := by
 have hlg : (offG (putsTo st.all st.all.length) d.name).length = (offL (putsTo st.all st.all.length) d.name).length := List.length_map _
 have hll := hi.len d.name
 refine FnV_intro [.tmp 6] Tryz.func57 rfl Tryz.ntmps57 rfl rfl (fun B F hF => ?_)
 refine SW_H [] [0, 2, 4] [(1, 4)] hk0 v0 c0 ?_
 refine SW_P [] [0, 2, 4, 7] ?_
 refine SW_seq ?_
 refine SW_seq ?_
 refine SW_draw (by kernel_rfl) (fun F1 hF1 => ?_)
 refine SG_F (fuel := 2) [] [0, 1, 2, 3, 4, 5, 8] [0, 2, 4, 7, 13, 15, 18] hold0 ?_
 refine SG_one (fuel := 1) 6 (by kernel_rfl) ?_
 refine SN_by (fuel := 1) 6 rfl ?_
 refine SO_look (s := d.name) (z := .slice none 0 0) (G := fun s => .row 4 (offG (putsTo st.all st.all.length) s).length (fun i => (offG (putsTo st.all st.all.length) s).getD i junk)) (s' := [(0, (.fp (indexX st))), (2, (.bool own)), (4, (.fp (.agg [(.int .i64 d.kind), (.str d.name), (.int .i64 d.op), (.str d.evr), (.row 5 d.args.length (depAt d.args))]))), (7, .nils), (13, (.smap (.slice none 0 0) (fun s => .row 4 (offG (putsTo st.all st.all.length) s).length (fun i => (offG (putsTo st.all st.all.length) s).getD i junk)))), (15, (.str d.name)), (18, (.int .i64 0)), (16, (.row 4 (offG (putsTo st.all st.all.length) d.name).length (fun i => (offG (putsTo st.all st.all.length) d.name).getD i junk)))]) (by kernel_rfl) (by kernel_rfl) (by kernel_rfl) Tryz.underlying78 Tryz.underlying9 (fun _ => by kernel_rfl) (by kernel_rfl) ?_
 refine SO_nil ⟨rfl, ?_⟩
 refine SG_F (fuel := 0) [] [7] [0, 2, 4, 7, 16, 17, 18] hold0 ?_
 refine SG_S [0, 2, 4, 7, 16, 17, 18] ?_
 refine SG_done (by kernel_rfl) ?_
 refine SW_block ?_
 refine SW_conv 16 (rowOf 4 offX (offL (putsTo st.all st.all.length) d.name)) (by kernel_rfl) (off_imp (putsTo st.all st.all.length) d.name) ?_
 refine SW_thaw 3 1 7 (y := ⟨[(0, (.fp (indexX st))), (2, (.bool own)), (4, (.fp (.agg [(.int .i64 d.kind), (.str d.name), (.int .i64 d.op), (.str d.evr), (.row 5 d.args.length (depAt d.args))]))), (7, (.own 1)), (16, (rowOf 4 offX (offL (putsTo st.all st.all.length) d.name))), (17, (.int .i64 (((offG (putsTo st.all st.all.length) d.name).length : Int)))), (18, (.int .i64 0))], [(1, (.grow [] 3 1))], 2⟩) (by kernel_rfl) (by kernel_rfl) ?_
 refine SW_L (fun g y => ∃ (i : Nat), i ≤ (offL (putsTo st.all st.all.length) d.name).length ∧ y = ⟨[(0, (.fp (indexX st))), (2, (.bool own)), (4, (.fp (.agg [(.int .i64 d.kind), (.str d.name), (.int .i64 d.op), (.str d.evr), (.row 5 d.args.length (depAt d.args))]))), (7, (.own 1)), (16, (rowOf 4 offX (offL (putsTo st.all st.all.length) d.name))), (17, (.int .i64 (((offG (putsTo st.all st.all.length) d.name).length : Int)))), (18, (.int .i64 ((i : Int))))], [(1, (.grow ((hitsTo m st d own i).map (AV.int .i64)) 3 1))], 2⟩ ∧ g = (offL (putsTo st.all st.all.length) d.name).length - i) [0, 2, 4, 7, 16, 17, 18] 2 _ (by omega) ⟨0, (by omega), (by kernel_rfl), rfl⟩ ?_
 rintro g1 y1 ⟨i, f1_1, rfl, rfl⟩
 have hhl := hitsTo_len (m := m) (st := st) (d := d) (own := own) (i := i)
 have hhm : ((hitsTo m st d own i).map (AV.int .i64)).length = (hitsTo m st d own i).length := List.length_map _
 refine SW_P [] [0, 2, 4, 7, 16, 17, 18, 19] ?_
 refine SW_seq ?_
 refine SW_if (p := (i : Int) < ((offG (putsTo st.all st.all.length) d.name).length : Int)) (by kernel_rfl) (fun c1 => ?_) (fun c1 => ?_)
 ·refine SW_skip ?_
  refine SW_seq ?_
  refine SW_block ?_
  refine SW_H [] [0, 2, 4, 7, 9, 16, 17, 18] [] hk0 v0 (cc 0 (p := (0 ≤ (i : Int) ∧ i < (offL (putsTo st.all st.all.length) d.name).length)) (by first | omega | (simp; omega) | (simp; done) | (intros; simp_all; omega) | (intros; simp_all; done)) <| c0) ?_
  obtain ⟨b1, hb1⟩ : ∃ b, b = ((nth (offL (putsTo st.all st.all.length) d.name) i).own) := ⟨_, rfl⟩
  refine SW_H (CS := [(4, ((!b1) = true → (!b1) = true)), (5, (b1 = false → (!b1) = true)), (10, (b1 || (!own)) = true → (b1 || (!own)) = true ∧ (b1 || (!own)) = true ∧ (b1 || (!own)) = true), (11, ((b1 || (!own)) = true → (b1 || (!own)) = true))]) [25, 26, 29, 30, 31] [0, 2, 4, 7, 9, 16, 17, 18, 33] [(0, 9)] (hkg 10 (b1 || (!own)) en_117 (fun cg => fits_ok m hM st d (nth (offL (putsTo st.all st.all.length) d.name) i) hd (hi.evr (by omega))) <| hk0) (vk 3 24 (a := .bool ((nth (offL (putsTo st.all st.all.length) d.name) i).own)) (b := .bool b1) (Imp.of_eq (by rw [hb1])) <| v0) (by refine cc _ ?_ <| cc _ ?_ <| cc _ ?_ <| cc _ ?_ c0 <;> first | omega | (simp; omega) | (simp; done) | (intros; simp_all; omega) | (intros; simp_all; done)) ?_
  refine SW_cond (q := (b1 || (!own)) && (fitsB m st.kind d (nth (offL (putsTo st.all st.all.length) d.name) i))) (by kernel_rfl) (fun c2 => ?_) (fun c2 => ?_)
  ·subst hb1
   try simp only [Bool.and_eq_true, Bool.or_eq_true, Bool.and_eq_false_iff, Bool.or_eq_false_iff, Bool.not_eq_true', Bool.not_eq_false', decide_eq_true_eq, decide_eq_false_iff_not] at c2
   refine SW_reg ?_
   refine SO_HA 0 [] [0, 2, 4, 7, 16, 17, 18] [] hk0 v0 (cc 4 (p := ((((hitsTo m st d own i).map (AV.int .i64)).length + 1) * 8 ≤ 140737488355328)) (by first | omega | (simp; omega) | (simp; done) | (intros; simp_all; omega) | (intros; simp_all; done)) <| c0) ?_
   refine SW_reg ?_
   refine SO_HA 0 [] [0, 2, 4, 7, 16, 17, 18] [] hk0 v0 (cc 0 (p := (-9223372036854775808 ≤ (i : Int) + 1 ∧ (i : Int) + 1 ≤ 9223372036854775807)) (by first | omega | (simp; omega) | (simp; done) | (intros; simp_all; omega) | (intros; simp_all; done)) <| c0) ?_
   refine ⟨by kernel_rfl, _, ?_, i + 1, ?_, (Eq.trans (b := (⟨[(0, (.fp (indexX st))), (2, (.bool own)), (4, (.fp (.agg [(.int .i64 d.kind), (.str d.name), (.int .i64 d.op), (.str d.evr), (.row 5 d.args.length (depAt d.args))]))), (7, (.own 1)), (16, (rowOf 4 offX (offL (putsTo st.all st.all.length) d.name))), (17, (.int .i64 (((offG (putsTo st.all st.all.length) d.name).length : Int)))), (18, (.int .i64 ((i : Int) + 1)))], [(1, (.grow (((hitsTo m st d own i).map (AV.int .i64)) ++ ([(.int .i64 ((nth (offL (putsTo st.all st.all.length) d.name) i).id))] : List AV)) 3 1))], 2⟩ : St)) (by kernel_rfl) (by rw [hits_yes (by omega) (by unfold hitB; simpa using c2)] <;> kernel_rfl)), rfl⟩
   ·omega
   ·omega
  ·subst hb1
   try simp only [Bool.and_eq_true, Bool.or_eq_true, Bool.and_eq_false_iff, Bool.or_eq_false_iff, Bool.not_eq_true', Bool.not_eq_false', decide_eq_true_eq, decide_eq_false_iff_not] at c2
   refine SW_skip ?_
   refine SW_reg ?_
   refine SO_HA 0 [] [0, 2, 4, 7, 16, 17, 18] [] hk0 v0 (cc 0 (p := (-9223372036854775808 ≤ (i : Int) + 1 ∧ (i : Int) + 1 ≤ 9223372036854775807)) (by first | omega | (simp; omega) | (simp; done) | (intros; simp_all; omega) | (intros; simp_all; done)) <| c0) ?_
   refine ⟨by kernel_rfl, _, ?_, i + 1, ?_, (Eq.trans (b := (⟨[(0, (.fp (indexX st))), (2, (.bool own)), (4, (.fp (.agg [(.int .i64 d.kind), (.str d.name), (.int .i64 d.op), (.str d.evr), (.row 5 d.args.length (depAt d.args))]))), (7, (.own 1)), (16, (rowOf 4 offX (offL (putsTo st.all st.all.length) d.name))), (17, (.int .i64 (((offG (putsTo st.all st.all.length) d.name).length : Int)))), (18, (.int .i64 ((i : Int) + 1)))], [(1, (.grow ((hitsTo m st d own i).map (AV.int .i64)) 3 1))], 2⟩ : St)) (by kernel_rfl) (by rw [hits_no (by omega) (by unfold hitB; simp only [Bool.and_eq_false_iff, Bool.or_eq_false_iff, Bool.not_eq_false']; simpa only [Bool.not_eq_false', Bool.not_eq_eq_eq_not, Bool.not_false] using c2)] <;> kernel_rfl)), rfl⟩
   ·omega
   ·omega
 ·refine SW_exit ?_
  refine SW_seq ?_
  refine SW_reg ?_
  refine SO_H 1 0 [] [40] [] hk0 v0 c0 ?_
  refine SO_callS [1] (al := [(.own 1)]) (al' := [(.own 0)]) (r := (.own 0)) (r' := (.own 1)) (s' := [(40, junk), (41, (.own 1))]) (H := [(0, (.grow ((hitsTo m st d own i).map (AV.int .i64)) 3 1))]) (H' := [(0, (.grow ((Lib.compact (hitsTo m st d own i)).map (AV.int .i64)) 3 1))]) (h2 := [(1, (.grow ((Lib.compact (hitsTo m st d own i)).map (AV.int .i64)) 3 1))]) (by kernel_rfl) (by exact en_118) (by kernel_rfl) (by kernel_rfl) (by kernel_rfl) (by kernel_rfl) (by kernel_rfl) (compactI_any (hitsTo m st d own i) (by have := hitsTo_len (m := m) (st := st) (d := d) (own := own) (i := i); omega)) (by kernel_rfl) (by kernel_rfl) (by kernel_rfl) ?_
  refine SO_HA 2 [] [6] [] hk0 v0 c0 ?_
  refine SW_ret ?_
  refine RK wR [(.row 1 ((Lib.compact (hitsTo m st d own i)).map (AV.int .i64)).length (fun ix => ((Lib.compact (hitsTo m st d own i)).map (AV.int .i64)).getD ix junk))] ?_
  rw [show i = (offL (putsTo st.all st.all.length) d.name).length from by omega]
  exact Same.list (f := AV.int .i64) (List.length_map _)
end Sv
end Go.Proofs.YtlfjokcbkopfeaaGreatDoor
end
section
namespace Go.Proofs.YtlfjokcbkopfeaaGreatDoor
open Go Go.RowKit
namespace Sv
attribute [local irreducible] SW SO holds
instance : Inhabited AV := ⟨.nilf⟩
def placeI (l : List Int) (v : Int) : Int := idxF (fun x => decide (v = x)) l
set_option maxHeartbeats 400000 in
set_option maxRecDepth 100000 in
theorem indexI_ok (l : List Int) (v : Int) (hl : l.length ≤ 4611686018427387904) :
  FnV Tryz.prog 128 [(nums l), (.int .i64 v)] (.int .i64 (placeI l v)) := by
 refine FnV_intro [.tmp 4] Tryz.func128 rfl Tryz.ntmps128 rfl rfl (fun B F hF => ?_)
 refine SW_P [] [0, 1] ?_
 refine SW_seq ?_
 refine SW_P [] [0, 1, 7, 8] ?_
 refine SW_block ?_
 refine SW_L (fun g y => ∃ (i : Nat), i ≤ l.length ∧ (∀ j, j < i → ¬ v = nth l j) ∧ y = ⟨[(0, (nums l)), (1, (.int .i64 v)), (7, (.int .i64 ((l.length : Int)))), (8, (.int .i64 ((i : Int))))], [], 0⟩ ∧ g = l.length - i) [0, 1, 7, 8] 0 _ (by omega) ⟨0, (by omega), (by exact fun j hj => by omega), (by kernel_rfl), rfl⟩ ?_
 rintro g1 y1 ⟨i, f1_1, f1_2, rfl, rfl⟩
 refine SW_P [] [0, 1, 7, 8, 9] ?_
 refine SW_seq ?_
 refine SW_if (p := (i : Int) < (l.length : Int)) (by kernel_rfl) (fun c1 => ?_) (fun c1 => ?_)
 ·refine SW_skip ?_
  refine SW_seq ?_
  refine SW_block ?_
  refine SW_P [] [0, 1, 5, 7, 8] ?_
  refine SW_H [] [0, 1, 5, 7, 8, 16] [] hk0 v0 (cc 3 (p := (0 ≤ (i : Int) ∧ i < l.length)) (by first | omega | (simp; omega) | (simp; done) | (intros; simp_all; omega) | (intros; simp_all; done)) <| c0) ?_
  refine SW_if (p := v = (nth l i)) (by kernel_rfl) (fun c2 => ?_) (fun c2 => ?_)
  ·refine SW_P [] [4] ?_
   refine SW_ret ?_
   refine RK wR [(.int .i64 ((i : Int)))] ?_
   exact Same.of_eq (by unfold placeI; rw [idxF_at (p := fun x => decide (v = x)) (i := i) (by omega) (fun j hj => by simpa using f1_2 j hj) (by simpa using c2)]; rfl)
  ·refine SW_skip ?_
   refine SW_reg ?_
   refine SO_HA 0 [] [0, 1, 7, 8] [] hk0 v0 (cc 0 (p := (-9223372036854775808 ≤ (i : Int) + 1 ∧ (i : Int) + 1 ≤ 9223372036854775807)) (by first | omega | (simp; omega) | (simp; done) | (intros; simp_all; omega) | (intros; simp_all; done)) <| c0) ?_
   refine ⟨by kernel_rfl, _, ?_, i + 1, ?_, ?_, (by kernel_rfl), rfl⟩
   ·omega
   ·omega
   ·intro j hj
    by_cases h : j = i
    ·subst h; assumption
    ·exact f1_2 j (by omega)
 ·refine SW_exit ?_
  refine SW_P [] [4] ?_
  refine SW_ret ?_
  refine RK wR [(.int .i64 (-1))] ?_
  exact Same.of_eq (by unfold placeI; rw [idxF_no (p := fun x => decide (v = x)) (fun j hj => by simpa using f1_2 j (by omega))]; rfl)
set_option maxHeartbeats 400000 in
set_option maxRecDepth 100000 in
theorem containsI_ok (l : List Int) (v : Int) (hl : l.length ≤ 4611686018427387904) :
  FnV Tryz.prog 78 [(nums l), (.int .i64 v)] (.bool (l.any fun x => decide (v = x))) := by
 refine FnV_intro [.tmp 4] Tryz.func78 rfl Tryz.ntmps78 rfl rfl (fun B F hF => ?_)
 refine SW_P [] [0, 1] ?_
 refine SW_H [] [4] [] (hk 2 en_128 (indexI_ok l v hl) <| hk0) v0 c0 ?_
 refine SW_ret ?_
 refine RK wR [(.bool (decide (0 ≤ (placeI l v))))] ?_
 exact Same.of_eq (by simp only [pack]; unfold placeI; rw [idxF_any])
end Sv
end Go.Proofs.YtlfjokcbkopfeaaGreatDoor
end
section
namespace Go.Proofs.YtlfjokcbkopfeaaGreatDoor
open Go Go.RowKit
namespace Sv
attribute [local irreducible] SW SO holds
end Sv
end Go.Proofs.YtlfjokcbkopfeaaGreatDoor
end
section
namespace Go.Proofs.YtlfjokcbkopfeaaGreatDoor
open Go Go.RowKit
namespace Sv
attribute [local irreducible] SW SO holds
theorem namedL_len {m : Int → Int → List UInt8 → Int → List UInt8 → Bool × Int} {st : PoolT} (hi : IdxOk st) {d : DepT} {own : Bool} : (namedL m st d own).length ≤ 4611686018427387904 := by
 have h1 := compactI_le (hitsTo m st d own (offL (putsTo st.all st.all.length) d.name).length)
 have h2 := hitsTo_len (m := m) (st := st) (d := d) (own := own) (i := (offL (putsTo st.all st.all.length) d.name).length)
 have h3 := hi.len d.name
 unfold namedL; omega
end Sv
end Go.Proofs.YtlfjokcbkopfeaaGreatDoor
end
section
namespace Go.Proofs.YtlfjokcbkopfeaaGreatDoor
open Go Go.RowKit
namespace Sv
attribute [local irreducible] SW SO holds
end Sv
end Go.Proofs.YtlfjokcbkopfeaaGreatDoor
end
section
namespace Go.Proofs.YtlfjokcbkopfeaaGreatDoor
open Go Go.RowKit
namespace Sv
attribute [local irreducible] SW SO holds
theorem en_53 : Enters Tryz.prog 53 := enters_of Tryz.func53 (by kernel_rfl) rfl
def readyE (d : DepT) (q : Bool) : Int := if checkE d = 0 then (if q = true then 0 else 70) else checkE d
set_option maxHeartbeats 400000 in
set_option maxRecDepth 100000 in
theorem ready_ok (st : PoolT) (d : DepT) (a : AV) (q : Bool) (hd : d.size ≤ 4194304) (ha : FunV Tryz.prog a [.int .i64 d.kind] (.bool q)) :
  FnV Tryz.prog 53 [(.fp (indexX st)), (.agg [(.int .i64 d.kind), (.str d.name), (.int .i64 d.op), (.str d.evr), (.row 5 d.args.length (depAt d.args))]), (.clo a)] (.int .i64 (readyE d q)) := by
 refine FnV_intro [.tmp 6] Tryz.func53 rfl Tryz.ntmps53 rfl rfl (fun B F hF => ?_)
 refine SW_H [] [0, 2, 4] [(1, 4)] hk0 v0 c0 ?_
 refine SW_seq ?_
 refine SW_P [] [2, 4, 9] ?_
 refine SW_false (by kernel_rfl) ?_
 refine SW_skip ?_
 refine SW_seq ?_
 refine SW_H [] [2, 4, 7] [] (hk 1 en_22 (CheckV d hd) <| hk0) v0 c0 ?_
 refine SW_P [] [2, 4, 7, 13] ?_
 refine SW_ifn (p := (checkE d) = 0) (by kernel_rfl) (fun c1 => ?_) (fun c1 => ?_)
 ·refine SW_P [] [6] ?_
  refine SW_ret ?_
  refine RK wR [(.int .i64 (checkE d))] ?_
  exact Same.of_eq (by simp only [pack]; unfold readyE; rw [if_neg (by assumption)])
 ·refine SW_skip ?_
  refine SW_seq ?_
  refine SW_seq ?_
  refine SW_reg ?_
  refine SO_H 3 0 [] [15, 17] [] hk0 v0 c0 ?_
  refine SO_callA (s' := [(15, (.clo a)), (17, (.int .i64 d.kind)), (18, (.bool q))]) (a := (.clo a)) (al := [(.int .i64 d.kind)]) (r := (.bool q)) (by kernel_rfl) (by kernel_rfl) (by kernel_rfl) (by kernel_rfl) (by kernel_rfl) ha.clo (by kernel_rfl) ?_
  refine SO_HA 4 [] [19] [] hk0 v0 c0 ?_
  refine SW_cond (q := !q) (by kernel_rfl) (fun c2 => ?_) (fun c2 => ?_)
  ·try simp only [Bool.and_eq_true, Bool.or_eq_true, Bool.and_eq_false_iff, Bool.or_eq_false_iff, Bool.not_eq_true', Bool.not_eq_false', decide_eq_true_eq, decide_eq_false_iff_not] at c2
   refine SW_P [] [6] ?_
   refine SW_ret ?_
   refine RK wR [(.int .i64 70)] ?_
   exact Same.of_eq (by simp only [pack]; unfold readyE; rw [if_pos (by omega), if_neg (by simp_all)])
  ·try simp only [Bool.and_eq_true, Bool.or_eq_true, Bool.and_eq_false_iff, Bool.or_eq_false_iff, Bool.not_eq_true', Bool.not_eq_false', decide_eq_true_eq, decide_eq_false_iff_not] at c2
   refine SW_skip ?_
   refine SW_P [] [6] ?_
   refine SW_ret ?_
   refine RK wR [(.int .i64 0)] ?_
   exact Same.of_eq (by simp only [pack]; unfold readyE; rw [if_pos (by omega), if_pos (by simp_all)])
end Sv
end Go.Proofs.YtlfjokcbkopfeaaGreatDoor
end
section
namespace Go.Proofs.YtlfjokcbkopfeaaGreatDoor
open Go Go.RowKit
namespace Sv
attribute [local irreducible] SW SO holds
theorem en_14 : Enters Tryz.prog 14 := enters_of Tryz.func14 (by kernel_rfl) rfl
theorem en_56 : Enters Tryz.prog 56 := enters_of Tryz.func56 (by kernel_rfl) rfl
def obsR (m : Int → Int → List UInt8 → Int → List UInt8 → Bool × Int) (st : PoolT) (d : DepT) : List Int × Int := if readyE d (decide (d.kind = 1)) = 0 then (namedL m st d true, 0) else ([], readyE d (decide (d.kind = 1)))
set_option maxHeartbeats 400000 in
set_option maxRecDepth 100000 in
theorem obsKind_ok (k : Int) :
  FnV Tryz.prog 56 [(.int .i64 k)] (.bool (decide (k = 1))) := by
 refine FnV_intro [.tmp 2] Tryz.func56 rfl Tryz.ntmps56 rfl rfl (fun B F hF => ?_)
 refine SW_P [] [0] ?_
 refine SW_P [] [2] ?_
 refine SW_ret ?_
 refine RK wR [(.bool (decide (k = 1)))] ?_
 exact Same.of_eq (by first | rfl | (simp only [pack]; simp_all))
set_option maxHeartbeats 400000 in
set_option maxRecDepth 100000 in
theorem Obsoleted_ok (m : Int → Int → List UInt8 → Int → List UInt8 → Bool × Int) (hM : MeetsOk m) (st : PoolT) (hi : IdxOk st) (d : DepT) (hd : d.size ≤ 4194304) :
  FnV Tryz.prog 14 [(.fp (indexX st)), (.agg [(.int .i64 d.kind), (.str d.name), (.int .i64 d.op), (.str d.evr), (.row 5 d.args.length (depAt d.args))])] (.tup [nums (obsR m st d).1, .int .i64 (obsR m st d).2]) := by
 refine FnV_intro [.tmp 4, .tmp 5] Tryz.func14 rfl Tryz.ntmps14 rfl rfl (fun B F hF => ?_)
 refine SW_H [] [0, 3] [(1, 3)] hk0 v0 c0 ?_
 refine SW_seq ?_
 refine SW_H [] [0, 3, 6] [] (hk 2 (al := [(.fp (indexX st)), (.agg [(.int .i64 d.kind), (.str d.name), (.int .i64 d.op), (.str d.evr), (.row 5 d.args.length (depAt d.args))]), (.fn 56 [] [])]) en_53 ((ready_ok st d (.fn 56 [] []) (decide (d.kind = 1)) hd (FunV.of (by exact en_56) (obsKind_ok d.kind))).of_args (ImpL.cons Imp.refl (ImpL.cons Imp.refl (ImpL.cons (Imp.clo rfl) ImpL.nil)))) <| hk0) v0 c0 ?_
 refine SW_P [] [0, 3, 6, 11] ?_
 refine SW_ifn (p := (readyE d (decide (d.kind = 1))) = 0) (by kernel_rfl) (fun c1 => ?_) (fun c1 => ?_)
 ·refine SW_P [] [4, 5] ?_
  refine SW_ret ?_
  refine RK wR [.nils, (.int .i64 (readyE d (decide (d.kind = 1))))] ?_
  simp only [pack]
  rw [show obsR m st d = ([], readyE d (decide (d.kind = 1))) from by unfold obsR; rw [if_neg (by assumption)]]
  exact (Imp.tups (ImpL.cons Imp.nil (ImpL.cons Imp.refl ImpL.nil))).same
 ·refine SW_skip ?_
  refine SW_H [] [4, 5] [] (hk 2 en_57 (named_ok m hM st hi d true hd) <| hk0) v0 c0 ?_
  refine SW_ret ?_
  refine RK wR [(nums (namedL m st d true)), (.int .i64 0)] ?_
  exact Same.of_eq (by simp only [pack]; unfold obsR; rw [if_pos (by omega)])
end Sv
end Go.Proofs.YtlfjokcbkopfeaaGreatDoor
end
section
namespace Go.Proofs.YtlfjokcbkopfeaaGreatDoor
open Go Go.RowKit
namespace Sv
attribute [local irreducible] SW SO holds
theorem en_194 : Enters Tryz.prog 194 := enters_of Tryz.func194 (by kernel_rfl) rfl
theorem en_130 : Enters Tryz.prog 130 := enters_of Tryz.func130 (by kernel_rfl) rfl
theorem en_216 : Enters Tryz.prog 216 := enters_of Tryz.func216 (by kernel_rfl) rfl
theorem en_136 : Enters Tryz.prog 136 := enters_of Tryz.func136 (by kernel_rfl) rfl
theorem en_195 : Enters Tryz.prog 195 := enters_of Tryz.func195 (by kernel_rfl) rfl
theorem en_163 : Enters Tryz.prog 163 := enters_of Tryz.func163 (by kernel_rfl) rfl
theorem en_164 : Enters Tryz.prog 164 := enters_of Tryz.func164 (by kernel_rfl) rfl
def cmpI (a b : Int) : Int := if a < b then -1 else if b < a then 1 else 0
def orI (a b : Int) : Int := if a = 0 then b else a
def numbersN (a b : List UInt8) : Int := orI (cmpI ((Lib.trimLeftB a 48).length : Int) ((Lib.trimLeftB b 48).length : Int)) (Lib.compareBytes (Lib.trimLeftB a 48) (Lib.trimLeftB b 48))
theorem weightN_pos {s : List UInt8} (h : weightN s ≠ 0) : 1 ≤ s.length := by
 cases s with
 | nil => exact absurd (by unfold weightN; rw [if_pos (.inl rfl)]) h
 | cons a r => simp
theorem weight_zero {s : List UInt8} (h : weightN s = 0) : s.length = 0 ∨ 1 ≤ countN digitD s := by
 cases s with
 | nil => exact .inl rfl
 | cons a r =>
  right
  unfold weightN at h
  have hb : byteAt (a :: r) 0 = a := by simp [byteAt]
  rw [hb] at h
  by_cases hd : digitD a = true
  ·unfold countN; rw [List.takeWhile_cons, hd]; simp
  ·rw [if_neg (by simp [hd])] at h
   split at h
   ·omega
   ·split at h
    ·rename_i hl
     have : a.toNat = 0 := by omega
     unfold letterD at hl; rw [this] at hl; simp at hl
    ·omega
theorem drop_len {s : List UInt8} {i : Nat} (h : ¬ s.drop i = []) : 1 ≤ s.length - i := by
 have := List.length_pos_iff.2 h
 rw [List.length_drop] at this; exact this
def debF : Nat → List UInt8 → List UInt8 → Int
 | 0, _, _ => 0
 | n + 1, a, b =>
  if weightN a ≠ 0 ∨ weightN b ≠ 0 then (if weightN a ≠ weightN b then cmpI (weightN a) (weightN b) else debF n (a.drop 1) (b.drop 1))
  else if numbersN (a.take (countN digitD a)) (b.take (countN digitD b)) ≠ 0 then numbersN (a.take (countN digitD a)) (b.take (countN digitD b))
  else if a.drop (countN digitD a) ≠ [] ∨ b.drop (countN digitD b) ≠ [] then debF n (a.drop (countN digitD a)) (b.drop (countN digitD b)) else 0
set_option maxHeartbeats 400000 in
set_option maxRecDepth 100000 in
theorem isNaN_ok (x : Int) :
  FnV Tryz.prog 216 [(.int .i64 x)] (.bool false) := by
 refine FnV_intro [.tmp 2] Tryz.func216 rfl Tryz.ntmps216 rfl rfl (fun B F hF => ?_)
 refine SW_P [] [0] ?_
 refine SW_P [] [2] ?_
 refine SW_ret ?_
 refine RK wR [(.bool (!decide (x = x)))] ?_
 exact Same.of_eq (by simp only [pack]; simp)
set_option maxHeartbeats 400000 in
set_option maxRecDepth 100000 in
theorem cmp_ok (x y : Int) :
  FnV Tryz.prog 194 [(.int .i64 x), (.int .i64 y)] (.int .i64 (cmpI x y)) := by
 refine FnV_intro [.tmp 4] Tryz.func194 rfl Tryz.ntmps194 rfl rfl (fun B F hF => ?_)
 refine SW_P [] [0, 1] ?_
 refine SW_H [] [0, 1, 5] [] (hk 1 en_216 (isNaN_ok x) <| hk0) v0 c0 ?_
 refine SW_H [] [0, 1, 5, 6] [] (hk 1 en_216 (isNaN_ok y) <| hk0) v0 c0 ?_
 refine SW_seq ?_
 refine SW_P [] [0, 1, 6, 11] ?_
 refine SW_false (by kernel_rfl) ?_
 refine SW_skip ?_
 refine SW_seq ?_
 refine SW_P [] [0, 1, 13] ?_
 refine SW_false (by kernel_rfl) ?_
 refine SW_skip ?_
 refine SW_seq ?_
 refine SW_P [] [0, 1, 16] ?_
 refine SW_if (p := x < y) (by kernel_rfl) (fun c1 => ?_) (fun c1 => ?_)
 ·refine SW_P [] [4] ?_
  refine SW_ret ?_
  refine RK wR [(.int .i64 (-1))] ?_
  exact Same.of_eq (by simp only [pack]; unfold cmpI; rw [if_pos (by assumption)])
 ·refine SW_skip ?_
  refine SW_seq ?_
  refine SW_P [] [19] ?_
  refine SW_if (p := y < x) (by kernel_rfl) (fun c2 => ?_) (fun c2 => ?_)
  ·refine SW_P [] [4] ?_
   refine SW_ret ?_
   refine RK wR [(.int .i64 1)] ?_
   exact Same.of_eq (by simp only [pack]; unfold cmpI; rw [if_neg (by assumption), if_pos (by assumption)])
  ·refine SW_skip ?_
   refine SW_P [] [4] ?_
   refine SW_ret ?_
   refine RK wR [(.int .i64 0)] ?_
   exact Same.of_eq (by simp only [pack]; unfold cmpI; rw [if_neg (by assumption), if_neg (by assumption)])
set_option maxHeartbeats 400000 in
set_option maxRecDepth 100000 in
theorem or_ok (x y : Int) :
  FnV Tryz.prog 130 [(nums [x, y])] (.int .i64 (orI x y)) := by
 refine FnV_intro [.tmp 2] Tryz.func130 rfl Tryz.ntmps130 rfl rfl (fun B F hF => ?_)
 refine SW_P [] [0] ?_
 refine SW_P [] [0, 3] ?_
 refine SW_seq ?_
 refine SW_P [] [3, 6, 7, 8] ?_
 refine SW_block ?_
 refine SW_rounds 3 ?_
 refine SR_round ?_
 refine SW_P [] [3, 6, 7, 8, 9] ?_
 refine SW_seq ?_
 refine SW_true (by kernel_rfl) ?_
 refine SW_skip ?_
 refine SW_seq ?_
 refine SW_block ?_
 refine SW_H [] [3, 5, 6, 7, 8] [] hk0 v0 (cc 0 (p := (0 ≤ (0 : Int) ∧ 0 < 2)) (by first | omega | (simp; omega) | (simp; done) | (intros; simp_all; omega) | (intros; simp_all; done)) <| c0) ?_
 refine SW_P [] [3, 5, 6, 7, 8, 14] ?_
 refine SW_ifn (p := x = 0) (by kernel_rfl) (fun c1 => ?_) (fun c1 => ?_)
 ·refine SW_P [] [2] ?_
  refine SW_ret ?_
  refine RK wR [(.int .i64 x)] ?_
  exact Same.of_eq (by simp only [pack]; unfold orI; rw [if_neg (by assumption)])
 ·refine SW_skip ?_
  refine SW_reg ?_
  refine SO_HA 0 [] [3, 6, 7, 8] [] hk0 v0 (cc 0 (p := (-9223372036854775808 ≤ (1 : Int) ∧ (1 : Int) ≤ 9223372036854775807)) (by first | omega | (simp; omega) | (simp; done) | (intros; simp_all; omega) | (intros; simp_all; done)) <| c0) ?_
  refine SR_round ?_
  refine SW_P [] [3, 6, 7, 8, 9] ?_
  refine SW_seq ?_
  refine SW_true (by kernel_rfl) ?_
  refine SW_skip ?_
  refine SW_seq ?_
  refine SW_block ?_
  refine SW_H [] [3, 5, 6, 7, 8] [] hk0 v0 (cc 0 (p := (0 ≤ (1 : Int) ∧ 1 < 2)) (by first | omega | (simp; omega) | (simp; done) | (intros; simp_all; omega) | (intros; simp_all; done)) <| c0) ?_
  refine SW_P [] [3, 5, 6, 7, 8, 14] ?_
  refine SW_ifn (p := y = 0) (by kernel_rfl) (fun c2 => ?_) (fun c2 => ?_)
  ·refine SW_P [] [2] ?_
   refine SW_ret ?_
   refine RK wR [(.int .i64 y)] ?_
   exact Same.of_eq (by simp only [pack]; unfold orI; rw [if_pos (by simp_all)] <;> rfl)
  ·refine SW_skip ?_
   refine SW_reg ?_
   refine SO_HA 0 [] [3, 6, 7, 8] [] hk0 v0 (cc 0 (p := (-9223372036854775808 ≤ (2 : Int) ∧ (2 : Int) ≤ 9223372036854775807)) (by first | omega | (simp; omega) | (simp; done) | (intros; simp_all; omega) | (intros; simp_all; done)) <| c0) ?_
   refine SR_round ?_
   refine SW_P [] [3, 6, 7, 8, 9] ?_
   refine SW_seq ?_
   refine SW_false (by kernel_rfl) ?_
   refine SW_exit ?_
   refine SW_P [] [2] ?_
   refine SW_ret ?_
   refine RK wR [(.int .i64 0)] ?_
   exact Same.of_eq (by simp only [pack]; unfold orI; rw [if_pos (by simp_all)] <;> simp_all)
set_option maxHeartbeats 400000 in
set_option maxRecDepth 100000 in
theorem numbers_ok (a b : List UInt8) :
  FnV Tryz.prog 163 [(.str a), (.str b)] (.int .i64 (numbersN a b)) := by
 refine FnV_intro [.tmp 4] Tryz.func163 rfl Tryz.ntmps163 rfl rfl (fun B F hF => ?_)
 refine SW_P [] [0, 1] ?_
 refine SW_H [] [0, 1] [] (hk 1 en_136 (TrimLeftV a 48 (by decide)) <| hk 3 en_136 (TrimLeftV b 48 (by decide)) <| hk0) v0 c0 ?_
 refine SW_H [] [4] [(9, 17)] (hk 4 en_194 (cmp_ok ((Lib.trimLeftB a 48).length : Int) ((Lib.trimLeftB b 48).length : Int)) <| hk 7 en_195 (CompareV (Lib.trimLeftB a 48) (Lib.trimLeftB b 48)) <| hk 9 en_130 (or_ok (cmpI ((Lib.trimLeftB a 48).length : Int) ((Lib.trimLeftB b 48).length : Int)) (Lib.compareBytes (Lib.trimLeftB a 48) (Lib.trimLeftB b 48))) <| hk0) (vk 9 17 (b := (nums [cmpI ((Lib.trimLeftB a 48).length : Int) ((Lib.trimLeftB b 48).length : Int), Lib.compareBytes (Lib.trimLeftB a 48) (Lib.trimLeftB b 48)])) (Imp.list (f := AV.int .i64) rfl) <| v0) c0 ?_
 refine SW_ret ?_
 refine RK wR [(.int .i64 (numbersN a b))] ?_
 exact Same.of_eq (by first | rfl | (simp only [pack]; simp_all))
set_option maxHeartbeats 1000000 in
set_option maxRecDepth 100000 in
theorem deb_ok (n : Nat) (a0 b0 : List UInt8) (h0 : a0.length + b0.length < n) (ha : a0.length ≤ 4194304) (hb : b0.length ≤ 4194304) :
  FnV Tryz.prog 164 [(.str a0), (.str b0)] (.int .i64 (debF n a0 b0)) := by
 refine FnV_intro [.tmp 4] Tryz.func164 rfl Tryz.ntmps164 rfl rfl (fun B F hF => ?_)
 refine SW_P [] [0, 1] ?_
 refine SW_scopeg 0 rfl (fun g y => ∃ (k : Nat) (a : List UInt8) (b : List UInt8), a.length + b.length < k ∧ a.length ≤ 4194304 ∧ b.length ≤ 4194304 ∧ debF n a0 b0 = debF k a b ∧ y = ⟨[(0, (.str a)), (1, (.str b))], [], 0⟩ ∧ g = k) [0, 1] 0 (by omega) (fun hJ0 => ?_) ?_
 ·refine SW_seq ?_
  refine SW_label ?_
  refine SW_gc (y := ⟨[(0, (.str a0)), (1, (.str b0))], [], 0⟩) [0, 1] 0 (by omega) (by kernel_rfl) (hJ0 _ _ ⟨n, a0, b0, (by omega), (by omega), (by omega), (by rfl), (by kernel_rfl), rfl⟩)
 ·rintro g y ⟨k, a, b, fl0_1, fl0_2, fl0_3, fl0_4, rfl, rfl⟩
  have hca := countN_le digitD a
  have hcb := countN_le digitD b
  refine SW_seq ?_
  refine SW_H [] [0, 1, 5, 6] [] (hk 1 en_196 (weight_ok a) <| hk 3 en_196 (weight_ok b) <| hk0) v0 c0 ?_
  obtain ⟨b1, hb1⟩ : ∃ b, b = (!decide ((weightN a) = 0)) := ⟨_, rfl⟩
  refine SW_H (CS := [(4, ((!b1) = true → (!b1) = true)), (5, (b1 = false → (!b1) = true))]) [17, 18] [0, 1, 5, 6, 19] [] hk0 (vk 3 16 (a := .bool (!decide ((weightN a) = 0))) (b := .bool b1) (Imp.of_eq (by rw [hb1])) <| v0) (by refine cc _ ?_ <| cc _ ?_ c0 <;> first | omega | (simp; omega) | (simp; done) | (intros; simp_all; omega) | (intros; simp_all; done)) ?_
  refine SW_cond (q := b1 || (!decide ((weightN b) = 0))) (by kernel_rfl) (fun c1 => ?_) (fun c1 => ?_)
  ·subst hb1
   try simp only [Bool.and_eq_true, Bool.or_eq_true, Bool.and_eq_false_iff, Bool.or_eq_false_iff, Bool.not_eq_true', Bool.not_eq_false', decide_eq_true_eq, decide_eq_false_iff_not] at c1
   refine SW_seq ?_
   refine SW_P [] [0, 1, 5, 6, 22] ?_
   refine SW_ifn (p := (weightN a) = (weightN b)) (by kernel_rfl) (fun c2 => ?_) (fun c2 => ?_)
   ·refine SW_H [] [4] [] (hk 2 en_194 (cmp_ok (weightN a) (weightN b)) <| hk0) v0 c0 ?_
    refine SW_ret ?_
    refine RK wR [(.int .i64 (cmpI (weightN a) (weightN b)))] ?_
    refine Same.of_eq ?_
    simp only [pack]
    rw [fl0_4]
    obtain ⟨k, rfl⟩ : ∃ q, g = q + 1 := ⟨g - 1, by omega⟩
    try simp only [List.take_length, List.drop_zero] at *
    unfold debF
    rw [if_pos (by assumption), if_pos (by assumption)]
   ·have hpa := weightN_pos (s := a) (by omega)
    have hpb := weightN_pos (s := b) (by omega)
    refine SW_skip ?_
    refine SW_D (CS := [(1, (0 ≤ (1 : Int) ∧ (1 : Int) ≤ (a.length : Int) ∧ (a.length : Int) ≤ (a.length : Int))), (3, (0 ≤ (1 : Int) ∧ (1 : Int) ≤ (b.length : Int) ∧ (b.length : Int) ≤ (b.length : Int)))]) [] [0, 1] [] hk0 v0 (by refine cc _ ?_ <| cc _ ?_ c0 <;> first | omega | (simp; omega) | (simp; done) | (intros; simp_all; omega) | (intros; simp_all; done)) ?_
    have hza := fun h => weight_zero (s := a) h
    have hzb := fun h => weight_zero (s := b) h
    refine SW_goto ⟨rfl, _, (by kernel_rfl : gcS _ _ _ = some ⟨[(0, (.str ((a.take a.length).drop 1))), (1, (.str ((b.take b.length).drop 1)))], [], 0⟩), _, ?_, g - 1, ((a.take a.length).drop 1), ((b.take b.length).drop 1), ?_, ?_, ?_, ?_, (by kernel_rfl), rfl⟩
    all_goals (obtain ⟨k, rfl⟩ : ∃ q, g = q + 1 := ⟨g - 1, by omega⟩)
    all_goals try simp only [List.take_length, List.drop_zero, List.length_drop] at *
    all_goals have hdec : a.length = 0 → b.length = 0 → False := fun e1 e2 => by first | omega | (rcases c4 with h | h <;> have := drop_len h <;> omega)
    ·first | omega | (have h1 := hza (by omega); have h2 := hzb (by omega); have h3 : ¬ (a.length = 0 ∧ b.length = 0) := fun e => hdec e.1 e.2; omega)
    ·first | omega | (have h1 := hza (by omega); have h2 := hzb (by omega); have h3 : ¬ (a.length = 0 ∧ b.length = 0) := fun e => hdec e.1 e.2; omega)
    ·omega
    ·omega
    ·rw [fl0_4]
     conv => lhs; unfold debF
     first | (rw [if_pos (by assumption), if_neg (by omega)]; rfl) | (rw [if_neg (by omega), if_neg (by omega), if_pos (by simp_all)]; rfl)
  ·subst hb1
   try simp only [Bool.and_eq_true, Bool.or_eq_true, Bool.and_eq_false_iff, Bool.or_eq_false_iff, Bool.not_eq_true', Bool.not_eq_false', decide_eq_true_eq, decide_eq_false_iff_not] at c1
   refine SW_skip ?_
   refine SW_H [] [0, 1, 7, 8] [] (hk 1 (al := [(.str a), (.fn 148 [] [])]) en_151 ((countV_ok a (.fn 148 [] []) digitD (by omega) (fun c => FunV.of (by exact en_148) (digitV_ok c))).of_args (ImpL.cons Imp.refl (ImpL.cons (Imp.clo rfl) ImpL.nil))) <| hk 3 (al := [(.str b), (.fn 148 [] [])]) en_151 ((countV_ok b (.fn 148 [] []) digitD (by omega) (fun c => FunV.of (by exact en_148) (digitV_ok c))).of_args (ImpL.cons Imp.refl (ImpL.cons (Imp.clo rfl) ImpL.nil))) <| hk0) v0 c0 ?_
   refine SW_seq ?_
   refine SW_D (CS := [(2, (0 ≤ (0 : Int) ∧ (0 : Int) ≤ (countN digitD a : Int) ∧ (countN digitD a : Int) ≤ (a.length : Int))), (5, (0 ≤ (0 : Int) ∧ (0 : Int) ≤ (countN digitD b : Int) ∧ (countN digitD b : Int) ≤ (b.length : Int)))]) [] [0, 1, 7, 8, 9] [] (hk 6 en_163 (numbers_ok ((a.take (countN digitD a)).drop 0) ((b.take (countN digitD b)).drop 0)) <| hk0) v0 (by refine cc _ ?_ <| cc _ ?_ c0 <;> first | omega | (simp; omega) | (simp; done) | (intros; simp_all; omega) | (intros; simp_all; done)) ?_
   refine SW_P [] [0, 1, 7, 8, 9, 42] ?_
   refine SW_ifn (p := (numbersN ((a.take (countN digitD a)).drop 0) ((b.take (countN digitD b)).drop 0)) = 0) (by kernel_rfl) (fun c3 => ?_) (fun c3 => ?_)
   ·refine SW_P [] [4] ?_
    refine SW_ret ?_
    refine RK wR [(.int .i64 (numbersN ((a.take (countN digitD a)).drop 0) ((b.take (countN digitD b)).drop 0)))] ?_
    refine Same.of_eq ?_
    simp only [pack]
    rw [fl0_4]
    obtain ⟨k, rfl⟩ : ∃ q, g = q + 1 := ⟨g - 1, by omega⟩
    try simp only [List.take_length, List.drop_zero] at *
    unfold debF
    rw [if_neg (by omega), if_pos (by assumption)]
   ·refine SW_skip ?_
    refine SW_seq ?_
    refine SW_D (CS := [(2, (0 ≤ (countN digitD a : Int) ∧ (countN digitD a : Int) ≤ (a.length : Int) ∧ (a.length : Int) ≤ (a.length : Int))), (5, (0 ≤ (countN digitD b : Int) ∧ (countN digitD b : Int) ≤ (b.length : Int) ∧ (b.length : Int) ≤ (b.length : Int)))]) [] [0, 1] [] hk0 v0 (by refine cc _ ?_ <| cc _ ?_ c0 <;> first | omega | (simp; omega) | (simp; done) | (intros; simp_all; omega) | (intros; simp_all; done)) ?_
    obtain ⟨b2, hb2⟩ : ∃ b, b = (!decide ((a.take a.length).drop (countN digitD a) = [])) := ⟨_, rfl⟩
    refine SW_H (CS := [(4, ((!b2) = true → (!b2) = true)), (5, (b2 = false → (!b2) = true))]) [53, 54] [0, 1, 55] [] hk0 (vk 3 52 (a := .bool (!decide ((a.take a.length).drop (countN digitD a) = []))) (b := .bool b2) (Imp.of_eq (by rw [hb2])) <| v0) (by refine cc _ ?_ <| cc _ ?_ c0 <;> first | omega | (simp; omega) | (simp; done) | (intros; simp_all; omega) | (intros; simp_all; done)) ?_
    refine SW_cond (q := b2 || (!decide ((b.take b.length).drop (countN digitD b) = []))) (by kernel_rfl) (fun c4 => ?_) (fun c4 => ?_)
    ·subst hb2
     try simp only [Bool.and_eq_true, Bool.or_eq_true, Bool.and_eq_false_iff, Bool.or_eq_false_iff, Bool.not_eq_true', Bool.not_eq_false', decide_eq_true_eq, decide_eq_false_iff_not] at c4
     have hza := fun h => weight_zero (s := a) h
     have hzb := fun h => weight_zero (s := b) h
     refine SW_goto ⟨rfl, _, (by kernel_rfl : gcS _ _ _ = some ⟨[(0, (.str ((a.take a.length).drop (countN digitD a)))), (1, (.str ((b.take b.length).drop (countN digitD b))))], [], 0⟩), _, ?_, g - 1, ((a.take a.length).drop (countN digitD a)), ((b.take b.length).drop (countN digitD b)), ?_, ?_, ?_, ?_, (by kernel_rfl), rfl⟩
     all_goals (obtain ⟨k, rfl⟩ : ∃ q, g = q + 1 := ⟨g - 1, by omega⟩)
     all_goals try simp only [List.take_length, List.drop_zero, List.length_drop] at *
     all_goals have hdec : a.length = 0 → b.length = 0 → False := fun e1 e2 => by first | omega | (rcases c4 with h | h <;> have := drop_len h <;> omega)
     ·first | omega | (have h1 := hza (by omega); have h2 := hzb (by omega); have h3 : ¬ (a.length = 0 ∧ b.length = 0) := fun e => hdec e.1 e.2; omega)
     ·first | omega | (have h1 := hza (by omega); have h2 := hzb (by omega); have h3 : ¬ (a.length = 0 ∧ b.length = 0) := fun e => hdec e.1 e.2; omega)
     ·omega
     ·omega
     ·rw [fl0_4]
      conv => lhs; unfold debF
      first | (rw [if_pos (by assumption), if_neg (by omega)]; rfl) | (rw [if_neg (by omega), if_neg (by omega), if_pos (by simp_all)]; rfl)
    ·subst hb2
     try simp only [Bool.and_eq_true, Bool.or_eq_true, Bool.and_eq_false_iff, Bool.or_eq_false_iff, Bool.not_eq_true', Bool.not_eq_false', decide_eq_true_eq, decide_eq_false_iff_not] at c4
     refine SW_skip ?_
     refine SW_P [] [4] ?_
     refine SW_ret ?_
     refine RK wR [(.int .i64 0)] ?_
     refine Same.of_eq ?_
     simp only [pack]
     rw [fl0_4]
     obtain ⟨k, rfl⟩ : ∃ q, g = q + 1 := ⟨g - 1, by omega⟩
     try simp only [List.take_length, List.drop_zero] at *
     unfold debF
     rw [if_neg (by omega), if_neg (by omega), if_neg (by simp_all)]
end Sv
end Go.Proofs.YtlfjokcbkopfeaaGreatDoor
end
section
namespace Go.Proofs.YtlfjokcbkopfeaaGreatDoor
open Go Go.RowKit
namespace Sv
attribute [local irreducible] SW SO holds
theorem en_165 : Enters Tryz.prog 165 := enters_of Tryz.func165 (by kernel_rfl) rfl
theorem en_129 : Enters Tryz.prog 129 := enters_of Tryz.func129 (by kernel_rfl) rfl
def orS (x y : List UInt8) : List UInt8 := if x = [] then y else x
def bothR (k : Int) (a b : List UInt8) : (List UInt8 × List UInt8 × List UInt8) × (List UInt8 × List UInt8 × List UInt8) × Int :=
 if k ≠ 1 ∧ k ≠ 2 then (([], [], []), ([], [], []), 1) else if evrE a = 0 then (evrP a, evrP b, evrE b) else (evrP a, ([], [], []), evrE a)
set_option maxHeartbeats 400000 in
set_option maxRecDepth 100000 in
theorem orS_ok (x y : List UInt8) :
  FnV Tryz.prog 165 [(strs [x, y])] (.str (orS x y)) := by
 refine FnV_intro [.tmp 2] Tryz.func165 rfl Tryz.ntmps165 rfl rfl (fun B F hF => ?_)
 refine SW_P [] [0] ?_
 refine SW_P [] [0, 3] ?_
 refine SW_seq ?_
 refine SW_P [] [3, 6, 7, 8] ?_
 refine SW_block ?_
 refine SW_rounds 3 ?_
 refine SR_round ?_
 refine SW_P [] [3, 6, 7, 8, 9] ?_
 refine SW_seq ?_
 refine SW_true (by kernel_rfl) ?_
 refine SW_skip ?_
 refine SW_seq ?_
 refine SW_block ?_
 refine SW_H [] [3, 5, 6, 7, 8] [] hk0 v0 (cc 0 (p := (0 ≤ (0 : Int) ∧ 0 < 2)) (by first | omega | (simp; omega) | (simp; done) | (intros; simp_all; omega) | (intros; simp_all; done)) <| c0) ?_
 refine SW_P [] [3, 5, 6, 7, 8, 14] ?_
 refine SW_ifn (p := x = []) (by kernel_rfl) (fun c1 => ?_) (fun c1 => ?_)
 ·refine SW_P [] [2] ?_
  refine SW_ret ?_
  refine RK wR [(.str x)] ?_
  exact Same.of_eq (by simp only [pack]; unfold orS; rw [if_neg (by assumption)])
 ·refine SW_skip ?_
  refine SW_reg ?_
  refine SO_HA 0 [] [3, 6, 7, 8] [] hk0 v0 (cc 0 (p := (-9223372036854775808 ≤ (1 : Int) ∧ (1 : Int) ≤ 9223372036854775807)) (by first | omega | (simp; omega) | (simp; done) | (intros; simp_all; omega) | (intros; simp_all; done)) <| c0) ?_
  refine SR_round ?_
  refine SW_P [] [3, 6, 7, 8, 9] ?_
  refine SW_seq ?_
  refine SW_true (by kernel_rfl) ?_
  refine SW_skip ?_
  refine SW_seq ?_
  refine SW_block ?_
  refine SW_H [] [3, 5, 6, 7, 8] [] hk0 v0 (cc 0 (p := (0 ≤ (1 : Int) ∧ 1 < 2)) (by first | omega | (simp; omega) | (simp; done) | (intros; simp_all; omega) | (intros; simp_all; done)) <| c0) ?_
  refine SW_P [] [3, 5, 6, 7, 8, 14] ?_
  refine SW_ifn (p := y = []) (by kernel_rfl) (fun c2 => ?_) (fun c2 => ?_)
  ·refine SW_P [] [2] ?_
   refine SW_ret ?_
   refine RK wR [(.str y)] ?_
   exact Same.of_eq (by simp only [pack]; unfold orS; rw [if_pos (by simp_all)] <;> rfl)
  ·refine SW_skip ?_
   refine SW_reg ?_
   refine SO_HA 0 [] [3, 6, 7, 8] [] hk0 v0 (cc 0 (p := (-9223372036854775808 ≤ (2 : Int) ∧ (2 : Int) ≤ 9223372036854775807)) (by first | omega | (simp; omega) | (simp; done) | (intros; simp_all; omega) | (intros; simp_all; done)) <| c0) ?_
   refine SR_round ?_
   refine SW_P [] [3, 6, 7, 8, 9] ?_
   refine SW_seq ?_
   refine SW_false (by kernel_rfl) ?_
   refine SW_exit ?_
   refine SW_P [] [2] ?_
   refine SW_ret ?_
   refine RK wR [(.str [])] ?_
   exact Same.of_eq (by simp only [pack]; unfold orS; rw [if_pos (by simp_all)] <;> simp_all)
set_option maxHeartbeats 1000000 in
set_option maxRecDepth 100000 in
theorem both_ok (kind : Int) (a b : List UInt8) (ha : a.length ≤ 4194304) (hb : b.length ≤ 4194304) :
  FnV Tryz.prog 129 [(.int .i64 kind), (.str a), (.str b)] (.tup [(.agg [.str (bothR kind a b).1.1, .str (bothR kind a b).1.2.1, .str (bothR kind a b).1.2.2]), (.agg [.str (bothR kind a b).2.1.1, .str (bothR kind a b).2.1.2.1, .str (bothR kind a b).2.1.2.2]), .int .i64 (bothR kind a b).2.2]) := by
 refine FnV_intro [.cell 6 136, .cell 7 136, .tmp 8] Tryz.func129 rfl Tryz.ntmps129 rfl rfl (fun B F hF => ?_)
 refine SW_P [] [0, 1, 2, 6, 7] ?_
 refine SW_seq ?_
 obtain ⟨b1, hb1⟩ : ∃ b, b = (!decide (kind = 1)) := ⟨_, rfl⟩
 refine SW_H (CS := [(4, (b1 = true → b1 = true)), (5, (b1 = true → b1 = true))]) [12, 13] [1, 2, 6, 7, 14] [] hk0 (vk 3 11 (a := .bool (!decide (kind = 1))) (b := .bool b1) (Imp.of_eq (by rw [hb1])) <| v0) (by refine cc _ ?_ <| cc _ ?_ c0 <;> first | omega | (simp; omega) | (simp; done) | (intros; simp_all; omega) | (intros; simp_all; done)) ?_
 refine SW_cond (q := b1 && (!decide (kind = 2))) (by kernel_rfl) (fun c1 => ?_) (fun c1 => ?_)
 ·subst hb1
  try simp only [Bool.and_eq_true, Bool.or_eq_true, Bool.and_eq_false_iff, Bool.or_eq_false_iff, Bool.not_eq_true', Bool.not_eq_false', decide_eq_true_eq, decide_eq_false_iff_not] at c1
  refine SW_D [] [6, 7, 8] [] hk0 v0 c0 ?_
  refine SW_ret ?_
  refine RK wR [(.agg [(.str []), (.str []), (.str [])]), (.agg [(.str []), (.str []), (.str [])]), (.int .i64 1)] ?_
  exact Same.of_eq (by simp only [pack]; unfold bothR; first | (rw [if_pos (by omega)]; done) | (rw [if_neg (by omega), if_pos (by omega)]; done) | (rw [if_neg (by omega), if_neg (by omega)]; done))
 ·subst hb1
  try simp only [Bool.and_eq_true, Bool.or_eq_true, Bool.and_eq_false_iff, Bool.or_eq_false_iff, Bool.not_eq_true', Bool.not_eq_false', decide_eq_true_eq, decide_eq_false_iff_not] at c1
  refine SW_skip ?_
  refine SW_seq ?_
  refine SW_H [] [2, 6, 7, 8] [] (hk 1 en_102 (evrParseV a (by omega)) <| hk0) v0 c0 ?_
  refine SW_P [] [2, 6, 7, 8, 23] ?_
  refine SW_if (p := (evrE a) = 0) (by kernel_rfl) (fun c2 => ?_) (fun c2 => ?_)
  ·refine SW_reg ?_
   refine SO_HA 0 [] [6, 7, 8] [] (hk 1 en_102 (evrParseV b (by omega)) <| hk0) v0 c0 ?_
   refine SW_D [] [6, 7, 8] [] hk0 v0 c0 ?_
   refine SW_ret ?_
   refine RK wR [(.agg [(.str ((evrP a).1)), (.str ((evrP a).2.1)), (.str ((evrP a).2.2))]), (.agg [(.str ((evrP b).1)), (.str ((evrP b).2.1)), (.str ((evrP b).2.2))]), (.int .i64 (evrE b))] ?_
   exact Same.of_eq (by simp only [pack]; unfold bothR; first | (rw [if_pos (by omega)]; done) | (rw [if_neg (by omega), if_pos (by omega)]; done) | (rw [if_neg (by omega), if_neg (by omega)]; done))
  ·refine SW_skip ?_
   refine SW_D [] [6, 7, 8] [] hk0 v0 c0 ?_
   refine SW_ret ?_
   refine RK wR [(.agg [(.str ((evrP a).1)), (.str ((evrP a).2.1)), (.str ((evrP a).2.2))]), (.agg [(.str []), (.str []), (.str [])]), (.int .i64 (evrE a))] ?_
   exact Same.of_eq (by simp only [pack]; unfold bothR; first | (rw [if_pos (by omega)]; done) | (rw [if_neg (by omega), if_pos (by omega)]; done) | (rw [if_neg (by omega), if_neg (by omega)]; done))
end Sv
end Go.Proofs.YtlfjokcbkopfeaaGreatDoor
end
section
namespace Go.Proofs.YtlfjokcbkopfeaaGreatDoor
open Go Go.RowKit
namespace Sv
attribute [local irreducible] SW SO holds
theorem en_166 : Enters Tryz.prog 166 := enters_of Tryz.func166 (by kernel_rfl) rfl
theorem en_197 : Enters Tryz.prog 197 := enters_of Tryz.func197 (by kernel_rfl) rfl
theorem en_198 : Enters Tryz.prog 198 := enters_of Tryz.func198 (by kernel_rfl) rfl
theorem en_199 : Enters Tryz.prog 199 := enters_of Tryz.func199 (by kernel_rfl) rfl
def mattersD (c : UInt8) : Bool := digitD c || (letterD c || (decide (c.toNat = 126) || decide (c.toNat = 94)))
set_option maxHeartbeats 400000 in
set_option maxRecDepth 100000 in
theorem matters_ok (c : UInt8) :
  FnV Tryz.prog 198 [(.int .u8 ((c.toNat : Int)))] (.bool (mattersD c)) := by
 refine FnV_intro [.tmp 2] Tryz.func198 rfl Tryz.ntmps198 rfl rfl (fun B F hF => ?_)
 refine SW_P [] [0] ?_
 obtain ⟨b1, hb1⟩ : ∃ b, b = ((digitD c) || (letterD c)) := ⟨_, rfl⟩
 obtain ⟨b2, hb2⟩ : ∃ b, b = (b1 || (decide ((c.toNat : Int) = 126))) := ⟨_, rfl⟩
 refine SW_H (CS := [(4, (!(digitD c)) = true → (!(digitD c)) = true), (5, ((digitD c) = false → (!(digitD c)) = true)), (8, ((!b1) = true → (!b1) = true)), (9, (b1 = false → (!b1) = true)), (12, ((!b2) = true → (!b2) = true)), (13, (b2 = false → (!b2) = true))]) [6, 10, 11, 14, 15] [2] [] (hk 1 en_148 (digitV_ok c) <| hkg 4 (!(digitD c)) en_149 (fun cg => letterV_ok c) <| hk0) (vk 7 9 (a := .bool ((digitD c) || (letterD c))) (b := .bool b1) (Imp.of_eq (by rw [hb1])) <| vk 11 13 (a := .bool (b1 || (decide ((c.toNat : Int) = 126)))) (b := .bool b2) (Imp.of_eq (by rw [hb2])) <| v0) (by refine cc _ ?_ <| cc _ ?_ <| cc _ ?_ <| cc _ ?_ <| cc _ ?_ <| cc _ ?_ c0 <;> first | omega | (simp; omega) | (simp; done) | (intros; simp_all; omega) | (intros; simp_all; done)) ?_
 refine SW_ret ?_
 refine RK wR [(.bool (b2 || (decide ((c.toNat : Int) = 94))))] ?_
 subst hb2 hb1
 refine Same.of_eq ?_
 simp only [pack]
 congr 1
 unfold mattersD
 rw [Bool.eq_iff_iff]
 have e1 : ((c.toNat : Int) = 126) ↔ c.toNat = 126 := by omega
 have e2 : ((c.toNat : Int) = 94) ↔ c.toNat = 94 := by omega
 simp only [Bool.and_eq_true, Bool.or_eq_true, decide_eq_true_eq, e1, e2, or_assoc]
set_option maxHeartbeats 400000 in
set_option maxRecDepth 100000 in
theorem odd_ok (c : UInt8) (a : AV) (q : Bool) (ha : FunV Tryz.prog a [.int .u8 (c.toNat : Int)] (.bool q)) :
  FnV Tryz.prog 199 [(.int .u8 ((c.toNat : Int))), (.fp (.agg [(.clo a)]))] (.bool (!q)) := by
 refine FnV_intro [.tmp 3] Tryz.func199 rfl Tryz.ntmps199 rfl rfl (fun B F hF => ?_)
 refine SW_P [] [0, 1] ?_
 refine SW_seq ?_
 refine SW_reg ?_
 refine SO_H 2 0 [] [4, 5] [] hk0 v0 c0 ?_
 refine SO_callA (s' := [(4, (.clo a)), (5, (.int .u8 ((c.toNat : Int)))), (6, (.bool q))]) (a := (.clo a)) (al := [(.int .u8 ((c.toNat : Int)))]) (r := (.bool q)) (by kernel_rfl) (by kernel_rfl) (by kernel_rfl) (by kernel_rfl) (by kernel_rfl) ha.clo (by kernel_rfl) ?_
 refine SO_HA 3 [] [3] [] hk0 v0 c0 ?_
 refine SW_ret ?_
 refine RK wR [(.bool (!q))] ?_
 exact Same.of_eq (by first | rfl | (simp only [pack]; simp_all))
set_option maxHeartbeats 400000 in
set_option maxRecDepth 100000 in
theorem begins126_ok (a b : List UInt8) (ha : a.length ≤ 4194304) (hb : b.length ≤ 4194304) :
  FnV Tryz.prog 197 [(.int .u8 126), (.fp (.agg [(.str a)])), (.fp (.agg [(.str b)]))] (.tup [.bool (headIs a 126), .bool (headIs b 126)]) := by
 refine FnV_intro [.tmp 4, .tmp 5] Tryz.func197 rfl Tryz.ntmps197 rfl rfl (fun B F hF => ?_)
 refine SW_P [] [0, 1, 2] ?_
 refine SW_D [] [4, 5] [] (hk 3 en_106 (HasPrefixV a 126 (by omega)) <| hk 7 en_106 (HasPrefixV b 126 (by omega)) <| hk0) v0 c0 ?_
 refine SW_ret ?_
 refine RK wR [(.bool (headIs a 126)), (.bool (headIs b 126))] ?_
 exact Same.of_eq (by first | rfl | (simp only [pack]; simp_all))
set_option maxHeartbeats 400000 in
set_option maxRecDepth 100000 in
theorem begins94_ok (a b : List UInt8) (ha : a.length ≤ 4194304) (hb : b.length ≤ 4194304) :
  FnV Tryz.prog 197 [(.int .u8 94), (.fp (.agg [(.str a)])), (.fp (.agg [(.str b)]))] (.tup [.bool (headIs a 94), .bool (headIs b 94)]) := by
 refine FnV_intro [.tmp 4, .tmp 5] Tryz.func197 rfl Tryz.ntmps197 rfl rfl (fun B F hF => ?_)
 refine SW_P [] [0, 1, 2] ?_
 refine SW_D [] [4, 5] [] (hk 3 en_106 (HasPrefixV a 94 (by omega)) <| hk 7 en_106 (HasPrefixV b 94 (by omega)) <| hk0) v0 c0 ?_
 refine SW_ret ?_
 refine RK wR [(.bool (headIs a 94)), (.bool (headIs b 94))] ?_
 exact Same.of_eq (by first | rfl | (simp only [pack]; simp_all))
end Sv
end Go.Proofs.YtlfjokcbkopfeaaGreatDoor
end
section
namespace Go.Proofs.YtlfjokcbkopfeaaGreatDoor
open Go Go.RowKit
namespace Sv
attribute [local irreducible] SW SO holds
def oddD (c : UInt8) : Bool := !mattersD c
theorem odd_fun (c : UInt8) : FunV Tryz.prog (.fn 199 [] [.fp (.agg [.fn 198 [] []])]) [.int .u8 (c.toNat : Int)] (.bool (oddD c)) :=
 FunV.of (by exact en_199) ((odd_ok c (.fn 198 [] []) (mattersD c) (FunV.of (by exact en_198) (matters_ok c))).of_args (ImpL.cons Imp.refl (ImpL.cons (Imp.fp (Imp.aggs (ImpL.cons (Imp.clo rfl) ImpL.nil))) ImpL.nil)))
theorem head_pos {s : List UInt8} {k : UInt8} (h : headIs s k = true) : 1 ≤ s.length := by
 cases s with
 | nil => simp [headIs] at h
 | cons a r => simp
theorem countN_drop (p : UInt8 → Bool) : ∀ s : List UInt8, s.drop (countN p s) = [] ∨ p (byteAt (s.drop (countN p s)) 0) = false
 | [] => .inl rfl
 | a :: r => by
  unfold countN
  rw [List.takeWhile_cons]
  cases h : p a with
  | true => exact countN_drop p r
  | false => right; simpa [byteAt] using h
theorem odd_drop {s r : List UInt8} (h : r = s.drop (countN oddD s)) : r = [] ∨ mattersD (byteAt r 0) = true := by
 rcases countN_drop oddD s with q | q
 ·exact .inl (h.trans q)
 ·right
  rw [h]
  have e : (!mattersD (byteAt (s.drop (countN oddD s)) 0)) = false := q
  simpa using e
theorem count_one {p : UInt8 → Bool} {s : List UInt8} (h : 1 ≤ s.length) (k : p (byteAt s 0) = true) : 1 ≤ countN p s := by
 cases s with
 | nil => simp at h
 | cons a r => unfold countN; rw [List.takeWhile_cons, show p a = true from by simpa [byteAt] using k]; simp
theorem matters_letter {s : List UInt8} (h : mattersD (byteAt s 0) = true) (hs : 1 ≤ s.length) (h1 : headIs s 126 = false) (h2 : headIs s 94 = false) (h3 : digitD (byteAt s 0) = false) : letterD (byteAt s 0) = true := by
 cases s with
 | nil => simp at hs
 | cons a r =>
  have e : byteAt (a :: r) 0 = a := by simp [byteAt]
  rw [e] at h h3 ⊢
  unfold mattersD at h
  rw [h3] at h
  have a1 : ¬ a.toNat = 126 := fun q => by have : a = 126 := UInt8.toNat_inj.1 q; subst this; simp [headIs] at h1
  have a2 : ¬ a.toNat = 94 := fun q => by have : a = 94 := UInt8.toNat_inj.1 q; subst this; simp [headIs] at h2
  simpa [a1, a2] using h
def rpmB (r : List UInt8 → List UInt8 → Int) (a b : List UInt8) : Int :=
 if headIs a 126 = true ∨ headIs b 126 = true then
  if headIs a 126 = true ∧ headIs b 126 = true then r (a.drop 1) (b.drop 1) else orderN (headIs a 126) (headIs b 126) (-1)
 else if headIs a 94 = true ∨ headIs b 94 = true then
  if headIs a 94 = true ∧ headIs b 94 = true then r (a.drop 1) (b.drop 1)
  else if a = [] ∨ b = [] then orderN (headIs a 94) (headIs b 94) 1 else orderN (headIs a 94) (headIs b 94) (-1)
 else if a = [] ∨ b = [] then cmpI (a.length : Int) (b.length : Int)
 else if digitD (byteAt a 0) = true then
  if countN digitD b = 0 then 1
  else if ¬ numbersN (a.take (countN digitD a)) (b.take (countN digitD b)) = 0 then numbersN (a.take (countN digitD a)) (b.take (countN digitD b))
  else r (a.drop (countN digitD a)) (b.drop (countN digitD b))
 else if countN letterD b = 0 then -1
 else if ¬ Lib.compareBytes (a.take (countN letterD a)) (b.take (countN letterD b)) = 0 then Lib.compareBytes (a.take (countN letterD a)) (b.take (countN letterD b))
 else r (a.drop (countN letterD a)) (b.drop (countN letterD b))
def rpmF : Nat → List UInt8 → List UInt8 → Int
 | 0, _, _ => 0
 | n + 1, a, b => rpmB (rpmF n) (a.drop (countN oddD a)) (b.drop (countN oddD b))
set_option maxHeartbeats 2000000 in
set_option maxRecDepth 100000 in
theorem rpm_ok (n : Nat) (a0 b0 : List UInt8) (h0 : a0.length + b0.length < n) (ha : a0.length ≤ 4194304) (hb : b0.length ≤ 4194304) :
  FnV Tryz.prog 166 [(.str a0), (.str b0)] (.int .i64 (rpmF n a0 b0)) := by
 refine FnV_intro [.tmp 4] Tryz.func166 rfl Tryz.ntmps166 rfl rfl (fun B F hF => ?_)
 refine SW_P [] [2, 3] ?_
 refine SW_scopeg 0 rfl (fun g y => ∃ (k : Nat) (a : List UInt8) (b : List UInt8), a.length + b.length < k ∧ a.length ≤ 4194304 ∧ b.length ≤ 4194304 ∧ rpmF n a0 b0 = rpmF k a b ∧ y = ⟨[(2, (.ptr 0 0)), (3, (.ptr 1 0)), (5, (.fn 197 [] [(.ptr 0 0), (.ptr 1 0)])), (7, (.fn 199 [] [(.fp (.agg [(.fn 198 [] [])]))]))], [(0, (.row [(.str a)] 9)), (1, (.row [(.str b)] 9))], 3⟩ ∧ g = k) [2, 3, 5, 7] 3 (by omega) (fun hJ0 => ?_) ?_
 ·refine SW_seq ?_
  refine SW_reg ?_
  refine SO_P [] [2, 3, 5] ?_
  refine SW_seq ?_
  refine SW_reg ?_
  refine SO_P [] [2, 3, 5, 6] ?_
  refine SW_seq ?_
  refine SW_reg ?_
  refine SO_HA 0 [] [2, 3, 5, 7] [(0, 6)] hk0 v0 c0 ?_
  refine SW_seq ?_
  refine SW_label ?_
  refine SW_gc (y := ⟨[(2, (.ptr 0 0)), (3, (.ptr 1 0)), (5, (.fn 197 [] [(.ptr 0 0), (.ptr 1 0)])), (7, (.fn 199 [] [(.fp (.agg [(.fn 198 [] [])]))]))], [(0, (.row [(.str a0)] 9)), (1, (.row [(.str b0)] 9))], 3⟩) [2, 3, 5, 7] 3 (by omega) (by kernel_rfl) (hJ0 _ _ ⟨n, a0, b0, (by omega), (by omega), (by omega), (by rfl), (by kernel_rfl), rfl⟩)
 ·rintro g y ⟨k, a, b, fl0_1, fl0_2, fl0_3, fl0_4, rfl, rfl⟩
  obtain ⟨k, rfl⟩ : ∃ q, g = q + 1 := ⟨g - 1, by omega⟩
  have hoa := countN_le oddD a
  have hob := countN_le oddD b
  refine SW_C (fun y => ∃ (a1 : List UInt8) (b1 : List UInt8), a1 = a.drop (countN oddD a) ∧ b1 = b.drop (countN oddD b) ∧ y = ⟨[(2, (.ptr 0 0)), (3, (.ptr 1 0)), (5, (.fn 197 [] [(.ptr 0 0), (.ptr 1 0)])), (7, (.fn 199 [] [(.fp (.agg [(.fn 198 [] [])]))]))], [(0, (.row [(.str a1)] 9)), (1, (.row [(.str b1)] 9))], 3⟩) [2, 3, 5, 7] 3 (by omega) ?_ ?_
  ·refine SW_DA (CS := [(4, (0 ≤ (countN oddD a : Int) ∧ (countN oddD a : Int) ≤ (a.length : Int) ∧ (a.length : Int) ≤ (a.length : Int))), (9, (0 ≤ (countN oddD b : Int) ∧ (countN oddD b : Int) ≤ (b.length : Int) ∧ (b.length : Int) ≤ (b.length : Int)))]) [] [2, 3, 5, 7] [] (hk 3 (al := [(.str a), (.fn 199 [] [(.fp (.agg [(.fn 198 [] [])]))])]) en_151 ((countV_ok a (.fn 199 [] [.fp (.agg [.fn 198 [] []])]) oddD (by omega) (fun c => odd_fun c)).of_args (ImpL.cons Imp.refl (ImpL.cons (Imp.clo rfl) ImpL.nil))) <| hk 8 (al := [(.str b), (.fn 199 [] [(.fp (.agg [(.fn 198 [] [])]))])]) en_151 ((countV_ok b (.fn 199 [] [.fp (.agg [.fn 198 [] []])]) oddD (by omega) (fun c => odd_fun c)).of_args (ImpL.cons Imp.refl (ImpL.cons (Imp.clo rfl) ImpL.nil))) <| hk0) v0 (by refine cc _ ?_ <| cc _ ?_ c0 <;> first | omega | (simp; omega) | (simp; done) | (intros; simp_all; omega) | (intros; simp_all; done)) ?_
   refine ⟨by kernel_rfl, ((a.take a.length).drop (countN oddD a)), ((b.take b.length).drop (countN oddD b)), ?_, ?_, (by kernel_rfl)⟩
   all_goals rw [List.take_length]
  ·rintro y1 ⟨a1, b1, ja, jb, rfl⟩
   have hla : a1.length ≤ a.length := by rw [ja, List.length_drop]; omega
   have hlb : b1.length ≤ b.length := by rw [jb, List.length_drop]; omega
   have hma := odd_drop ja
   have hmb := odd_drop jb
   have hxa := fun k => head_pos (s := a1) (k := k)
   have hxb := fun k => head_pos (s := b1) (k := k)
   have hda := countN_le digitD a1
   have hdb := countN_le digitD b1
   have hea := countN_le letterD a1
   have heb := countN_le letterD b1
   have e0 : rpmF (k + 1) a b = rpmB (rpmF k) a1 b1 := by rw [ja, jb]; rfl
   refine SW_seq ?_
   refine SW_seq ?_
   refine SW_reg ?_
   refine SO_H 1 0 [] [2, 3, 5, 7, 31] [] hk0 v0 c0 ?_
   refine SO_callBv (s' := [(2, (.ptr 0 0)), (3, (.ptr 1 0)), (5, (.fn 197 [] [(.ptr 0 0), (.ptr 1 0)])), (7, (.fn 199 [] [(.fp (.agg [(.fn 198 [] [])]))])), (31, (.fn 197 [] [(.ptr 0 0), (.ptr 1 0)])), (32, (.tup [(.bool (headIs a1 126)), (.bool (headIs b1 126))]))]) (al := [(.int .u8 126)]) (f := 197) (cap := [(.ptr 0 0), (.ptr 1 0)]) (al' := [(.int .u8 126), (.fp (.agg [(.str a1)])), (.fp (.agg [(.str b1)]))]) (h' := []) (r := (.tup [(.bool (headIs a1 126)), (.bool (headIs b1 126))])) (by kernel_rfl) (by kernel_rfl) (by exact en_197) (by kernel_rfl) (by kernel_rfl) (begins126_ok a1 b1 (by omega) (by omega)) rfl (by kernel_rfl) ?_
   refine SO_HA 2 [] [2, 3, 5, 7, 8, 9] [] hk0 v0 c0 ?_
   refine SW_H [37] [2, 3, 5, 7, 8, 9, 38] [] hk0 v0 (cc 3 (p := ((headIs a1 126) = false → (!(headIs a1 126)) = true)) (by first | omega | (simp; omega) | (simp; done) | (intros; simp_all; omega) | (intros; simp_all; done)) <| c0) ?_
   refine SW_cond (q := (headIs a1 126) || (headIs b1 126)) (by kernel_rfl) (fun c1 => ?_) (fun c1 => ?_)
   ·try simp only [Bool.and_eq_true, Bool.or_eq_true, Bool.and_eq_false_iff, Bool.or_eq_false_iff, Bool.not_eq_true', Bool.not_eq_false', decide_eq_true_eq, decide_eq_false_iff_not] at c1
    refine SW_seq ?_
    refine SW_H [41] [2, 3, 5, 7, 8, 9, 42] [] hk0 v0 (cc 3 (p := ((headIs a1 126) = true → (headIs a1 126) = true)) (by first | omega | (simp; omega) | (simp; done) | (intros; simp_all; omega) | (intros; simp_all; done)) <| c0) ?_
    refine SW_cond (q := (headIs a1 126) && (headIs b1 126)) (by kernel_rfl) (fun c2 => ?_) (fun c2 => ?_)
    ·try simp only [Bool.and_eq_true, Bool.or_eq_true, Bool.and_eq_false_iff, Bool.or_eq_false_iff, Bool.not_eq_true', Bool.not_eq_false', decide_eq_true_eq, decide_eq_false_iff_not] at c2
     have h1 := hxa _ c2.1
     have h2 := hxb _ c2.2
     refine SW_D (CS := [(1, (0 ≤ (1 : Int) ∧ (1 : Int) ≤ (a1.length : Int) ∧ (a1.length : Int) ≤ (a1.length : Int))), (3, (0 ≤ (1 : Int) ∧ (1 : Int) ≤ (b1.length : Int) ∧ (b1.length : Int) ≤ (b1.length : Int)))]) [] [2, 3, 5, 7] [] hk0 v0 (by refine cc _ ?_ <| cc _ ?_ c0 <;> first | omega | (simp; omega) | (simp; done) | (intros; simp_all; omega) | (intros; simp_all; done)) ?_
     refine SW_goto ⟨rfl, _, (by kernel_rfl : gcS _ _ _ = some ⟨[(2, (.ptr 0 0)), (3, (.ptr 1 0)), (5, (.fn 197 [] [(.ptr 0 0), (.ptr 1 0)])), (7, (.fn 199 [] [(.fp (.agg [(.fn 198 [] [])]))]))], [(0, (.row [(.str ((a1.take a1.length).drop 1))] 9)), (1, (.row [(.str ((b1.take b1.length).drop 1))] 9))], 3⟩), _, ?_, k, ((a1.take a1.length).drop 1), ((b1.take b1.length).drop 1), ?_, ?_, ?_, ?_, (by kernel_rfl), rfl⟩
     all_goals (try simp only [List.take_length, List.drop_zero, List.length_drop] at *)
     ·omega
     ·omega
     ·omega
     ·omega
     ·rw [fl0_4, e0]
      unfold rpmB
      rw [if_pos c1, if_pos c2]
    ·try simp only [Bool.and_eq_true, Bool.or_eq_true, Bool.and_eq_false_iff, Bool.or_eq_false_iff, Bool.not_eq_true', Bool.not_eq_false', decide_eq_true_eq, decide_eq_false_iff_not] at c2
     refine SW_skip ?_
     refine SW_H [] [4] [] (hk 2 en_167 (order_ok (headIs a1 126) (headIs b1 126) (-1) (by omega)) <| hk0) v0 c0 ?_
     refine SW_ret ?_
     refine RK wR [(.int .i64 (orderN (headIs a1 126) (headIs b1 126) (-1)))] ?_
     refine Same.of_eq ?_
     simp only [pack]
     try simp only [List.take_length, List.drop_zero] at *
     rw [fl0_4, e0]
     congr 1
     symm
     unfold rpmB
     rw [if_pos c1, if_neg (by rcases c2 with h | h <;> simp [h])]
   ·try simp only [Bool.and_eq_true, Bool.or_eq_true, Bool.and_eq_false_iff, Bool.or_eq_false_iff, Bool.not_eq_true', Bool.not_eq_false', decide_eq_true_eq, decide_eq_false_iff_not] at c1
    refine SW_skip ?_
    refine SW_seq ?_
    refine SW_seq ?_
    refine SW_reg ?_
    refine SO_H 1 0 [] [2, 3, 5, 7, 51] [] hk0 v0 c0 ?_
    refine SO_callBv (s' := [(2, (.ptr 0 0)), (3, (.ptr 1 0)), (5, (.fn 197 [] [(.ptr 0 0), (.ptr 1 0)])), (7, (.fn 199 [] [(.fp (.agg [(.fn 198 [] [])]))])), (51, (.fn 197 [] [(.ptr 0 0), (.ptr 1 0)])), (52, (.tup [(.bool (headIs a1 94)), (.bool (headIs b1 94))]))]) (al := [(.int .u8 94)]) (f := 197) (cap := [(.ptr 0 0), (.ptr 1 0)]) (al' := [(.int .u8 94), (.fp (.agg [(.str a1)])), (.fp (.agg [(.str b1)]))]) (h' := []) (r := (.tup [(.bool (headIs a1 94)), (.bool (headIs b1 94))])) (by kernel_rfl) (by kernel_rfl) (by exact en_197) (by kernel_rfl) (by kernel_rfl) (begins94_ok a1 b1 (by omega) (by omega)) rfl (by kernel_rfl) ?_
    refine SO_HA 2 [] [2, 3, 5, 7, 10, 11] [] hk0 v0 c0 ?_
    refine SW_H [57] [2, 3, 5, 7, 10, 11, 58] [] hk0 v0 (cc 3 (p := ((headIs a1 94) = false → (!(headIs a1 94)) = true)) (by first | omega | (simp; omega) | (simp; done) | (intros; simp_all; omega) | (intros; simp_all; done)) <| c0) ?_
    refine SW_cond (q := (headIs a1 94) || (headIs b1 94)) (by kernel_rfl) (fun c3 => ?_) (fun c3 => ?_)
    ·try simp only [Bool.and_eq_true, Bool.or_eq_true, Bool.and_eq_false_iff, Bool.or_eq_false_iff, Bool.not_eq_true', Bool.not_eq_false', decide_eq_true_eq, decide_eq_false_iff_not] at c3
     refine SW_seq ?_
     refine SW_block ?_
     refine SW_H [62] [2, 3, 5, 7, 10, 11, 59] [] hk0 v0 (cc 3 (p := ((headIs a1 94) = true → (headIs a1 94) = true)) (by first | omega | (simp; omega) | (simp; done) | (intros; simp_all; omega) | (intros; simp_all; done)) <| c0) ?_
     refine SW_cond (q := (headIs a1 94) && (headIs b1 94)) (by kernel_rfl) (fun c4 => ?_) (fun c4 => ?_)
     ·try simp only [Bool.and_eq_true, Bool.or_eq_true, Bool.and_eq_false_iff, Bool.or_eq_false_iff, Bool.not_eq_true', Bool.not_eq_false', decide_eq_true_eq, decide_eq_false_iff_not] at c4
      have h1 := hxa _ c4.1
      have h2 := hxb _ c4.2
      refine SW_D (CS := [(1, (0 ≤ (1 : Int) ∧ (1 : Int) ≤ (a1.length : Int) ∧ (a1.length : Int) ≤ (a1.length : Int))), (3, (0 ≤ (1 : Int) ∧ (1 : Int) ≤ (b1.length : Int) ∧ (b1.length : Int) ≤ (b1.length : Int)))]) [] [2, 3, 5, 7] [] hk0 v0 (by refine cc _ ?_ <| cc _ ?_ c0 <;> first | omega | (simp; omega) | (simp; done) | (intros; simp_all; omega) | (intros; simp_all; done)) ?_
      refine SW_goto ⟨rfl, _, (by kernel_rfl : gcS _ _ _ = some ⟨[(2, (.ptr 0 0)), (3, (.ptr 1 0)), (5, (.fn 197 [] [(.ptr 0 0), (.ptr 1 0)])), (7, (.fn 199 [] [(.fp (.agg [(.fn 198 [] [])]))]))], [(0, (.row [(.str ((a1.take a1.length).drop 1))] 9)), (1, (.row [(.str ((b1.take b1.length).drop 1))] 9))], 3⟩), _, ?_, k, ((a1.take a1.length).drop 1), ((b1.take b1.length).drop 1), ?_, ?_, ?_, ?_, (by kernel_rfl), rfl⟩
      all_goals (try simp only [List.take_length, List.drop_zero, List.length_drop] at *)
      ·omega
      ·omega
      ·omega
      ·omega
      ·rw [fl0_4, e0]
       unfold rpmB
       rw [if_neg (by simp [c1.1, c1.2]), if_pos c3, if_pos c4]
     ·try simp only [Bool.and_eq_true, Bool.or_eq_true, Bool.and_eq_false_iff, Bool.or_eq_false_iff, Bool.not_eq_true', Bool.not_eq_false', decide_eq_true_eq, decide_eq_false_iff_not] at c4
      refine SW_H (CS := [(4, ((!(decide (a1 = []))) = true → (!(decide (a1 = []))) = true)), (5, ((decide (a1 = [])) = false → (!(decide (a1 = []))) = true))]) [72, 73] [10, 11, 68] [] hk0 v0 (by refine cc _ ?_ <| cc _ ?_ c0 <;> first | omega | (simp; omega) | (simp; done) | (intros; simp_all; omega) | (intros; simp_all; done)) ?_
      refine SW_cond (q := (decide (a1 = [])) || (decide (b1 = []))) (by kernel_rfl) (fun c5 => ?_) (fun c5 => ?_)
      ·try simp only [Bool.and_eq_true, Bool.or_eq_true, Bool.and_eq_false_iff, Bool.or_eq_false_iff, Bool.not_eq_true', Bool.not_eq_false', decide_eq_true_eq, decide_eq_false_iff_not] at c5
       refine SW_H [] [4] [] (hk 2 en_167 (order_ok (headIs a1 94) (headIs b1 94) 1 (by omega)) <| hk0) v0 c0 ?_
       refine SW_ret ?_
       refine RK wR [(.int .i64 (orderN (headIs a1 94) (headIs b1 94) 1))] ?_
       refine Same.of_eq ?_
       simp only [pack]
       try simp only [List.take_length, List.drop_zero] at *
       rw [fl0_4, e0]
       congr 1
       symm
       unfold rpmB
       rw [if_neg (by simp [c1.1, c1.2]), if_pos c3, if_neg (by rcases c4 with h | h <;> simp [h]), if_pos c5]
      ·try simp only [Bool.and_eq_true, Bool.or_eq_true, Bool.and_eq_false_iff, Bool.or_eq_false_iff, Bool.not_eq_true', Bool.not_eq_false', decide_eq_true_eq, decide_eq_false_iff_not] at c5
       refine SW_skip ?_
       refine SW_H [] [4] [] (hk 2 en_167 (order_ok (headIs a1 94) (headIs b1 94) (-1) (by omega)) <| hk0) v0 c0 ?_
       refine SW_ret ?_
       refine RK wR [(.int .i64 (orderN (headIs a1 94) (headIs b1 94) (-1)))] ?_
       refine Same.of_eq ?_
       simp only [pack]
       try simp only [List.take_length, List.drop_zero] at *
       rw [fl0_4, e0]
       congr 1
       symm
       unfold rpmB
       rw [if_neg (by simp [c1.1, c1.2]), if_pos c3, if_neg (by rcases c4 with h | h <;> simp [h]), if_neg (by simp [c5.1, c5.2])]
    ·try simp only [Bool.and_eq_true, Bool.or_eq_true, Bool.and_eq_false_iff, Bool.or_eq_false_iff, Bool.not_eq_true', Bool.not_eq_false', decide_eq_true_eq, decide_eq_false_iff_not] at c3
     refine SW_skip ?_
     refine SW_seq ?_
     refine SW_H (CS := [(4, ((!(decide (a1 = []))) = true → (!(decide (a1 = []))) = true)), (5, ((decide (a1 = [])) = false → (!(decide (a1 = []))) = true))]) [84, 85] [2, 3, 5, 7, 86] [] hk0 v0 (by refine cc _ ?_ <| cc _ ?_ c0 <;> first | omega | (simp; omega) | (simp; done) | (intros; simp_all; omega) | (intros; simp_all; done)) ?_
     refine SW_cond (q := (decide (a1 = [])) || (decide (b1 = []))) (by kernel_rfl) (fun c6 => ?_) (fun c6 => ?_)
     ·try simp only [Bool.and_eq_true, Bool.or_eq_true, Bool.and_eq_false_iff, Bool.or_eq_false_iff, Bool.not_eq_true', Bool.not_eq_false', decide_eq_true_eq, decide_eq_false_iff_not] at c6
      refine SW_H [] [4] [] (hk 4 en_194 (cmp_ok (a1.length : Int) (b1.length : Int)) <| hk0) v0 c0 ?_
      refine SW_ret ?_
      refine RK wR [(.int .i64 (cmpI (a1.length : Int) (b1.length : Int)))] ?_
      refine Same.of_eq ?_
      simp only [pack]
      try simp only [List.take_length, List.drop_zero] at *
      rw [fl0_4, e0]
      congr 1
      symm
      unfold rpmB
      rw [if_neg (by simp [c1.1, c1.2]), if_neg (by simp [c3.1, c3.2]), if_pos c6]
     ·try simp only [Bool.and_eq_true, Bool.or_eq_true, Bool.and_eq_false_iff, Bool.or_eq_false_iff, Bool.not_eq_true', Bool.not_eq_false', decide_eq_true_eq, decide_eq_false_iff_not] at c6
      have hpa := List.length_pos_iff.2 c6.1
      have hpb := List.length_pos_iff.2 c6.2
      refine SW_skip ?_
      refine SW_seq ?_
      refine SW_H [] [2, 3, 5, 7, 94] [] (hk 2 en_148 (digitV_ok (byteAt a1 0)) <| hk0) v0 (cc 1 (p := (0 ≤ (0 : Int) ∧ 0 < a1.length)) (by first | omega | (simp; omega) | (simp; done) | (intros; simp_all; omega) | (intros; simp_all; done)) <| c0) ?_
      refine SW_cond (q := digitD (byteAt a1 0)) (by kernel_rfl) (fun c7 => ?_) (fun c7 => ?_)
      ·try simp only [Bool.and_eq_true, Bool.or_eq_true, Bool.and_eq_false_iff, Bool.or_eq_false_iff, Bool.not_eq_true', Bool.not_eq_false', decide_eq_true_eq, decide_eq_false_iff_not] at c7
       refine SW_D [] [2, 3, 5, 7, 12, 13] [] (hk 1 (al := [(.str a1), (.fn 148 [] [])]) en_151 ((countV_ok a1 (.fn 148 [] []) digitD (by omega) (fun c => FunV.of (by exact en_148) (digitV_ok c))).of_args (ImpL.cons Imp.refl (ImpL.cons (Imp.clo rfl) ImpL.nil))) <| hk 3 (al := [(.str b1), (.fn 148 [] [])]) en_151 ((countV_ok b1 (.fn 148 [] []) digitD (by omega) (fun c => FunV.of (by exact en_148) (digitV_ok c))).of_args (ImpL.cons Imp.refl (ImpL.cons (Imp.clo rfl) ImpL.nil))) <| hk0) v0 c0 ?_
       refine SW_seq ?_
       refine SW_P [] [2, 3, 5, 7, 12, 13, 100] ?_
       refine SW_if (p := (countN digitD b1 : Int) = 0) (by kernel_rfl) (fun c8 => ?_) (fun c8 => ?_)
       ·refine SW_P [] [4] ?_
        refine SW_ret ?_
        refine RK wR [(.int .i64 1)] ?_
        refine Same.of_eq ?_
        simp only [pack]
        try simp only [List.take_length, List.drop_zero] at *
        rw [fl0_4, e0]
        congr 1
        symm
        unfold rpmB
        rw [if_neg (by simp [c1.1, c1.2]), if_neg (by simp [c3.1, c3.2]), if_neg (by simp [c6.1, c6.2]), if_pos c7, if_pos (by omega)]
       ·refine SW_skip ?_
        refine SW_seq ?_
        refine SW_D (CS := [(2, (0 ≤ (0 : Int) ∧ (0 : Int) ≤ (countN digitD a1 : Int) ∧ (countN digitD a1 : Int) ≤ (a1.length : Int))), (5, (0 ≤ (0 : Int) ∧ (0 : Int) ≤ (countN digitD b1 : Int) ∧ (countN digitD b1 : Int) ≤ (b1.length : Int)))]) [] [2, 3, 5, 7, 12, 13, 14] [] (hk 6 en_163 (numbers_ok ((a1.take (countN digitD a1)).drop 0) ((b1.take (countN digitD b1)).drop 0)) <| hk0) v0 (by refine cc _ ?_ <| cc _ ?_ c0 <;> first | omega | (simp; omega) | (simp; done) | (intros; simp_all; omega) | (intros; simp_all; done)) ?_
        refine SW_P [] [2, 3, 5, 7, 12, 13, 14, 109] ?_
        refine SW_ifn (p := (numbersN ((a1.take (countN digitD a1)).drop 0) ((b1.take (countN digitD b1)).drop 0)) = 0) (by kernel_rfl) (fun c9 => ?_) (fun c9 => ?_)
        ·refine SW_P [] [4] ?_
         refine SW_ret ?_
         refine RK wR [(.int .i64 (numbersN ((a1.take (countN digitD a1)).drop 0) ((b1.take (countN digitD b1)).drop 0)))] ?_
         refine Same.of_eq ?_
         simp only [pack]
         try simp only [List.take_length, List.drop_zero] at *
         rw [fl0_4, e0]
         congr 1
         symm
         unfold rpmB
         rw [if_neg (by simp [c1.1, c1.2]), if_neg (by simp [c3.1, c3.2]), if_neg (by simp [c6.1, c6.2]), if_pos c7, if_neg (by omega), if_pos c9]
        ·refine SW_skip ?_
         refine SW_D (CS := [(2, (0 ≤ (countN digitD a1 : Int) ∧ (countN digitD a1 : Int) ≤ (a1.length : Int) ∧ (a1.length : Int) ≤ (a1.length : Int))), (5, (0 ≤ (countN digitD b1 : Int) ∧ (countN digitD b1 : Int) ≤ (b1.length : Int) ∧ (b1.length : Int) ≤ (b1.length : Int)))]) [] [2, 3, 5, 7] [] hk0 v0 (by refine cc _ ?_ <| cc _ ?_ c0 <;> first | omega | (simp; omega) | (simp; done) | (intros; simp_all; omega) | (intros; simp_all; done)) ?_
         refine SW_goto ⟨rfl, _, (by kernel_rfl : gcS _ _ _ = some ⟨[(2, (.ptr 0 0)), (3, (.ptr 1 0)), (5, (.fn 197 [] [(.ptr 0 0), (.ptr 1 0)])), (7, (.fn 199 [] [(.fp (.agg [(.fn 198 [] [])]))]))], [(0, (.row [(.str ((a1.take a1.length).drop (countN digitD a1)))] 9)), (1, (.row [(.str ((b1.take b1.length).drop (countN digitD b1)))] 9))], 3⟩), _, ?_, k, ((a1.take a1.length).drop (countN digitD a1)), ((b1.take b1.length).drop (countN digitD b1)), ?_, ?_, ?_, ?_, (by kernel_rfl), rfl⟩
         all_goals (try simp only [List.take_length, List.drop_zero, List.length_drop] at *)
         have h3 := count_one (p := digitD) (s := a1) (by omega) (by simpa using c7)
         ·omega
         ·omega
         ·omega
         ·omega
         ·rw [fl0_4, e0]
          unfold rpmB
          rw [if_neg (by simp [c1.1, c1.2]), if_neg (by simp [c3.1, c3.2]), if_neg (by simp [c6.1, c6.2]), if_pos c7, if_neg (by omega), if_neg (fun q => q c9)]
      ·try simp only [Bool.and_eq_true, Bool.or_eq_true, Bool.and_eq_false_iff, Bool.or_eq_false_iff, Bool.not_eq_true', Bool.not_eq_false', decide_eq_true_eq, decide_eq_false_iff_not] at c7
       refine SW_skip ?_
       refine SW_D [] [2, 3, 5, 7, 15, 16] [] (hk 1 (al := [(.str a1), (.fn 149 [] [])]) en_151 ((countV_ok a1 (.fn 149 [] []) letterD (by omega) (fun c => FunV.of (by exact en_149) (letterV_ok c))).of_args (ImpL.cons Imp.refl (ImpL.cons (Imp.clo rfl) ImpL.nil))) <| hk 3 (al := [(.str b1), (.fn 149 [] [])]) en_151 ((countV_ok b1 (.fn 149 [] []) letterD (by omega) (fun c => FunV.of (by exact en_149) (letterV_ok c))).of_args (ImpL.cons Imp.refl (ImpL.cons (Imp.clo rfl) ImpL.nil))) <| hk0) v0 c0 ?_
       refine SW_seq ?_
       refine SW_P [] [2, 3, 5, 7, 15, 16, 122] ?_
       refine SW_if (p := (countN letterD b1 : Int) = 0) (by kernel_rfl) (fun c10 => ?_) (fun c10 => ?_)
       ·refine SW_P [] [4] ?_
        refine SW_ret ?_
        refine RK wR [(.int .i64 (-1))] ?_
        refine Same.of_eq ?_
        simp only [pack]
        try simp only [List.take_length, List.drop_zero] at *
        rw [fl0_4, e0]
        congr 1
        symm
        unfold rpmB
        rw [if_neg (by simp [c1.1, c1.2]), if_neg (by simp [c3.1, c3.2]), if_neg (by simp [c6.1, c6.2]), if_neg (by simp [c7]), if_pos (by omega)]
       ·refine SW_skip ?_
        refine SW_seq ?_
        refine SW_D (CS := [(2, (0 ≤ (0 : Int) ∧ (0 : Int) ≤ (countN letterD a1 : Int) ∧ (countN letterD a1 : Int) ≤ (a1.length : Int))), (5, (0 ≤ (0 : Int) ∧ (0 : Int) ≤ (countN letterD b1 : Int) ∧ (countN letterD b1 : Int) ≤ (b1.length : Int)))]) [] [2, 3, 5, 7, 15, 16, 17] [] (hk 6 en_195 (CompareV ((a1.take (countN letterD a1)).drop 0) ((b1.take (countN letterD b1)).drop 0)) <| hk0) v0 (by refine cc _ ?_ <| cc _ ?_ c0 <;> first | omega | (simp; omega) | (simp; done) | (intros; simp_all; omega) | (intros; simp_all; done)) ?_
        refine SW_P [] [2, 3, 5, 7, 15, 16, 17, 131] ?_
        refine SW_ifn (p := (Lib.compareBytes ((a1.take (countN letterD a1)).drop 0) ((b1.take (countN letterD b1)).drop 0)) = 0) (by kernel_rfl) (fun c11 => ?_) (fun c11 => ?_)
        ·refine SW_P [] [4] ?_
         refine SW_ret ?_
         refine RK wR [(.int .i64 (Lib.compareBytes ((a1.take (countN letterD a1)).drop 0) ((b1.take (countN letterD b1)).drop 0)))] ?_
         refine Same.of_eq ?_
         simp only [pack]
         try simp only [List.take_length, List.drop_zero] at *
         rw [fl0_4, e0]
         congr 1
         symm
         unfold rpmB
         rw [if_neg (by simp [c1.1, c1.2]), if_neg (by simp [c3.1, c3.2]), if_neg (by simp [c6.1, c6.2]), if_neg (by simp [c7]), if_neg (by omega), if_pos c11]
        ·refine SW_skip ?_
         refine SW_D (CS := [(2, (0 ≤ (countN letterD a1 : Int) ∧ (countN letterD a1 : Int) ≤ (a1.length : Int) ∧ (a1.length : Int) ≤ (a1.length : Int))), (5, (0 ≤ (countN letterD b1 : Int) ∧ (countN letterD b1 : Int) ≤ (b1.length : Int) ∧ (b1.length : Int) ≤ (b1.length : Int)))]) [] [2, 3, 5, 7] [] hk0 v0 (by refine cc _ ?_ <| cc _ ?_ c0 <;> first | omega | (simp; omega) | (simp; done) | (intros; simp_all; omega) | (intros; simp_all; done)) ?_
         refine SW_goto ⟨rfl, _, (by kernel_rfl : gcS _ _ _ = some ⟨[(2, (.ptr 0 0)), (3, (.ptr 1 0)), (5, (.fn 197 [] [(.ptr 0 0), (.ptr 1 0)])), (7, (.fn 199 [] [(.fp (.agg [(.fn 198 [] [])]))]))], [(0, (.row [(.str ((a1.take a1.length).drop (countN letterD a1)))] 9)), (1, (.row [(.str ((b1.take b1.length).drop (countN letterD b1)))] 9))], 3⟩), _, ?_, k, ((a1.take a1.length).drop (countN letterD a1)), ((b1.take b1.length).drop (countN letterD b1)), ?_, ?_, ?_, ?_, (by kernel_rfl), rfl⟩
         all_goals (try simp only [List.take_length, List.drop_zero, List.length_drop] at *)
         have hml : letterD (byteAt a1 0) = true := by
          rcases hma with q | q
          ·exact absurd q c6.1
          ·exact matters_letter q (by omega) (by simp_all) (by simp_all) (by simp_all)
         have h3 := count_one (p := letterD) (s := a1) (by omega) hml
         ·omega
         ·omega
         ·omega
         ·omega
         ·rw [fl0_4, e0]
          unfold rpmB
          rw [if_neg (by simp [c1.1, c1.2]), if_neg (by simp [c3.1, c3.2]), if_neg (by simp [c6.1, c6.2]), if_neg (by simp [c7]), if_neg (by omega), if_neg (fun q => q c11)]
end Sv
end Go.Proofs.YtlfjokcbkopfeaaGreatDoor
end
section
namespace Go.Proofs.YtlfjokcbkopfeaaGreatDoor
open Go Go.RowKit
namespace Sv
attribute [local irreducible] SW SO holds
theorem en_131 : Enters Tryz.prog 131 := enters_of Tryz.func131 (by kernel_rfl) rfl
def debN (a b : List UInt8) : Int := debF (a.length + b.length + 1) a b
def rpmN (a b : List UInt8) : Int := rpmF (a.length + b.length + 1) a b
theorem deb_okN (a b : List UInt8) (ha : a.length ≤ 4194304) (hb : b.length ≤ 4194304) : FnV Tryz.prog 164 [.str a, .str b] (.int .i64 (debN a b)) := deb_ok _ a b (by omega) ha hb
theorem rpm_okN (a b : List UInt8) (ha : a.length ≤ 4194304) (hb : b.length ≤ 4194304) : FnV Tryz.prog 166 [.str a, .str b] (.int .i64 (rpmN a b)) := rpm_ok _ a b (by omega) ha hb
theorem orS_len {a : List UInt8} (h : a.length ≤ 4194304) : (orS a [48]).length ≤ 4194304 := by unfold orS; split <;> simp [h]
def evrPartsN (k : Int) (a b : (List UInt8 × List UInt8 × List UInt8)) : Int × Int :=
 if k = 2 then (orI (numbersN a.1 b.1) (debN a.2.1 b.2.1), debN (orS a.2.2 [48]) (orS b.2.2 [48]))
 else if a.2.2 = [] ∨ b.2.2 = [] then (orI (numbersN a.1 b.1) (rpmN a.2.1 b.2.1), orderN (!decide (a.2.2 = [])) (!decide (b.2.2 = [])) 1)
 else (orI (numbersN a.1 b.1) (rpmN a.2.1 b.2.1), rpmN a.2.2 b.2.2)
def meetC (a b : List UInt8) (c d : Int) : Int := if c = 0 ∧ ¬ a = [] ∧ ¬ b = [] then d else c
def meetO (c op o : Int) : Bool :=
 if c < 0 then !decide (Go.bits .and .i64 op 4 = 0) || !decide (Go.bits .and .i64 o 1 = 0)
 else if 0 < c then !decide (Go.bits .and .i64 op 1 = 0) || !decide (Go.bits .and .i64 o 4 = 0)
 else !decide (Go.bits .and .i64 op o = 0)
def meetV (k : Int) (a b : List UInt8) : Int := meetC (bothR k a b).1.2.2 (bothR k a b).2.1.2.2 (evrPartsN k (bothR k a b).1 (bothR k a b).2.1).1 (evrPartsN k (bothR k a b).1 (bothR k a b).2.1).2
def meetsN (k op : Int) (a : List UInt8) (o : Int) (b : List UInt8) : Bool × Int :=
 if (¬ k = 1 ∧ ¬ k = 2) ∨ op < 0 ∨ 7 < op ∨ o < 0 ∨ 7 < o then (false, 1)
 else if op = 0 ∨ o = 0 then (true, 0)
 else if ¬ (bothR k a b).2.2 = 0 then (false, (bothR k a b).2.2)
 else (meetO (meetV k a b) op o, 0)
theorem evrP_len (l : List UInt8) : (evrP l).1.length ≤ l.length ∧ (evrP l).2.1.length ≤ l.length ∧ (evrP l).2.2.length ≤ l.length := by
 unfold evrP
 split
 ·unfold evrParts
  refine ⟨?_, ?_, ?_⟩
  ·show (if _ then _ else _ : List UInt8).length ≤ _
   split <;> simp; omega
  ·show (if _ then _ else _ : List UInt8).length ≤ _
   split <;> (try rw [List.length_take]) <;> split <;> simp <;> omega
  ·show (if _ then _ else _ : List UInt8).length ≤ _
   split <;> (try rw [List.length_drop]) <;> (try split) <;> simp <;> omega
 ·simp
theorem bothR_len (k : Int) (a b : List UInt8) : (bothR k a b).1.1.length ≤ a.length ∧ (bothR k a b).1.2.1.length ≤ a.length ∧ (bothR k a b).1.2.2.length ≤ a.length ∧ (bothR k a b).2.1.1.length ≤ b.length ∧ (bothR k a b).2.1.2.1.length ≤ b.length ∧ (bothR k a b).2.1.2.2.length ≤ b.length := by
 have h1 := evrP_len a
 have h2 := evrP_len b
 unfold bothR
 split
 ·simp
 ·split <;> simp <;> omega
set_option maxHeartbeats 1000000 in
set_option maxRecDepth 100000 in
theorem parts_ok (k : Int) (a b : (List UInt8 × List UInt8 × List UInt8)) (ha : a.1.length ≤ 4194304 ∧ a.2.1.length ≤ 4194304 ∧ a.2.2.length ≤ 4194304) (hb : b.1.length ≤ 4194304 ∧ b.2.1.length ≤ 4194304 ∧ b.2.2.length ≤ 4194304) :
  FnV Tryz.prog 131 [(.int .i64 k), (.agg [(.str a.1), (.str a.2.1), (.str a.2.2)]), (.agg [(.str b.1), (.str b.2.1), (.str b.2.2)])] (.tup [.int .i64 (evrPartsN k a b).1, .int .i64 (evrPartsN k a b).2]) := by
 refine FnV_intro [.tmp 6, .tmp 7] Tryz.func131 rfl Tryz.ntmps131 rfl rfl (fun B F hF => ?_)
 refine SW_H [] [0, 4, 5] [(1, 4), (2, 5)] hk0 v0 c0 ?_
 refine SW_H [] [0, 4, 5, 8] [] (hk 4 en_163 (numbers_ok a.1 b.1) <| hk0) v0 c0 ?_
 refine SW_seq ?_
 refine SW_P [] [4, 5, 8, 15] ?_
 refine SW_if (p := k = 2) (by kernel_rfl) (fun c1 => ?_) (fun c1 => ?_)
 ·refine SW_D [] [6, 7] [(7, 22), (11, 26), (15, 30)] (hk 5 en_164 (deb_okN a.2.1 b.2.1 (by omega) (by omega)) <| hk 7 en_130 (or_ok (numbersN a.1 b.1) (debN a.2.1 b.2.1)) <| hk 11 en_165 (orS_ok a.2.2 [48]) <| hk 15 en_165 (orS_ok b.2.2 [48]) <| hk 16 en_164 (deb_okN (orS a.2.2 [48]) (orS b.2.2 [48]) (by exact orS_len (by first | exact ha.2.2 | exact hb.2.2)) (by exact orS_len (by first | exact ha.2.2 | exact hb.2.2))) <| hk0) (vk 7 22 (b := (nums [numbersN a.1 b.1, debN a.2.1 b.2.1])) (Imp.list (f := AV.int .i64) rfl) <| vk 11 26 (b := (strs ([a.2.2, [48]]))) (Imp.list (f := AV.str) rfl) <| vk 15 30 (b := (strs ([b.2.2, [48]]))) (Imp.list (f := AV.str) rfl) <| v0) c0 ?_
  refine SW_ret ?_
  refine RK wR [(.int .i64 (orI (numbersN a.1 b.1) (debN a.2.1 b.2.1))), (.int .i64 (debN (orS a.2.2 [48]) (orS b.2.2 [48])))] ?_
  refine Same.of_eq ?_
  simp only [pack]
  unfold evrPartsN
  rw [if_pos c1]
 ·refine SW_skip ?_
  refine SW_H [] [4, 5, 8] [(7, 39)] (hk 5 en_166 (rpm_okN a.2.1 b.2.1 (by omega) (by omega)) <| hk 7 en_130 (or_ok (numbersN a.1 b.1) (rpmN a.2.1 b.2.1)) <| hk0) (vk 7 39 (b := (nums [numbersN a.1 b.1, rpmN a.2.1 b.2.1])) (Imp.list (f := AV.int .i64) rfl) <| v0) c0 ?_
  refine SW_seq ?_
  refine SW_H (CS := [(5, ((!(decide (a.2.2 = []))) = true → (!(decide (a.2.2 = []))) = true)), (6, ((!(decide (a.2.2 = []))) = true → (!(decide (a.2.2 = []))) = true)), (7, ((decide (a.2.2 = [])) = false → (!(decide (a.2.2 = []))) = true))]) [45, 46, 47] [4, 5, 8, 48] [] hk0 v0 (by refine cc _ ?_ <| cc _ ?_ <| cc _ ?_ c0 <;> first | omega | (simp; omega) | (simp; done) | (intros; simp_all; omega) | (intros; simp_all; done)) ?_
  refine SW_cond (q := (decide (a.2.2 = [])) || (decide (b.2.2 = []))) (by kernel_rfl) (fun c2 => ?_) (fun c2 => ?_)
  ·try simp only [Bool.and_eq_true, Bool.or_eq_true, Bool.and_eq_false_iff, Bool.or_eq_false_iff, Bool.not_eq_true', Bool.not_eq_false', decide_eq_true_eq, decide_eq_false_iff_not] at c2
   refine SW_H [] [6, 7] [] (hk 7 en_167 (order_ok (!decide (a.2.2 = [])) (!decide (b.2.2 = [])) 1 (by omega)) <| hk0) v0 c0 ?_
   refine SW_ret ?_
   refine RK wR [(.int .i64 (orI (numbersN a.1 b.1) (rpmN a.2.1 b.2.1))), (.int .i64 (orderN (!decide (a.2.2 = [])) (!decide (b.2.2 = [])) 1))] ?_
   refine Same.of_eq ?_
   simp only [pack]
   unfold evrPartsN
   rw [if_neg c1, if_pos c2]
  ·try simp only [Bool.and_eq_true, Bool.or_eq_true, Bool.and_eq_false_iff, Bool.or_eq_false_iff, Bool.not_eq_true', Bool.not_eq_false', decide_eq_true_eq, decide_eq_false_iff_not] at c2
   refine SW_skip ?_
   refine SW_H [] [6, 7] [] (hk 5 en_166 (rpm_okN a.2.2 b.2.2 (by omega) (by omega)) <| hk0) v0 c0 ?_
   refine SW_ret ?_
   refine RK wR [(.int .i64 (orI (numbersN a.1 b.1) (rpmN a.2.1 b.2.1))), (.int .i64 (rpmN a.2.2 b.2.2))] ?_
   refine Same.of_eq ?_
   simp only [pack]
   unfold evrPartsN
   rw [if_neg c1, if_neg (by simp [c2.1, c2.2])]
set_option maxHeartbeats 1000000 in
set_option maxRecDepth 100000 in
theorem meets_ok (k op : Int) (a : List UInt8) (o : Int) (b : List UInt8) (ha : a.length ≤ 4194304) (hb : b.length ≤ 4194304) :
  FnV Tryz.prog 159 [(.int .i64 k), (.int .i64 op), (.str a), (.int .i64 o), (.str b)] (.tup [.bool (meetsN k op a o b).1, .int .i64 (meetsN k op a o b).2]) := by
 have hbl := bothR_len k a b
 refine FnV_intro [.tmp 10, .tmp 11] Tryz.func159 rfl Tryz.ntmps159 rfl rfl (fun B F hF => ?_)
 refine SW_P [] [0, 1, 2, 3, 4] ?_
 refine SW_seq ?_
 refine SW_block ?_
 refine SW_H (CS := [(4, ((!decide (k = 1)) = true → (!decide (k = 1)) = true)), (5, ((!decide (k = 1)) = true → (!decide (k = 1)) = true)), (8, ((!((!decide (k = 1)) && (!decide (k = 2)))) = true → (!((!decide (k = 1)) && (!decide (k = 2)))) = true)), (9, (((!decide (k = 1)) && (!decide (k = 2))) = false → (!((!decide (k = 1)) && (!decide (k = 2)))) = true)), (12, ((!(((!decide (k = 1)) && (!decide (k = 2))) || (decide (op < 0)))) = true → (!(((!decide (k = 1)) && (!decide (k = 2))) || (decide (op < 0)))) = true)), (13, ((((!decide (k = 1)) && (!decide (k = 2))) || (decide (op < 0))) = false → (!(((!decide (k = 1)) && (!decide (k = 2))) || (decide (op < 0)))) = true)), (16, ((!((((!decide (k = 1)) && (!decide (k = 2))) || (decide (op < 0))) || (decide (7 < op)))) = true → (!((((!decide (k = 1)) && (!decide (k = 2))) || (decide (op < 0))) || (decide (7 < op)))) = true)), (17, (((((!decide (k = 1)) && (!decide (k = 2))) || (decide (op < 0))) || (decide (7 < op))) = false → (!((((!decide (k = 1)) && (!decide (k = 2))) || (decide (op < 0))) || (decide (7 < op)))) = true)), (20, ((!(((((!decide (k = 1)) && (!decide (k = 2))) || (decide (op < 0))) || (decide (7 < op))) || (decide (o < 0)))) = true → (!(((((!decide (k = 1)) && (!decide (k = 2))) || (decide (op < 0))) || (decide (7 < op))) || (decide (o < 0)))) = true)), (21, ((((((!decide (k = 1)) && (!decide (k = 2))) || (decide (op < 0))) || (decide (7 < op))) || (decide (o < 0))) = false → (!(((((!decide (k = 1)) && (!decide (k = 2))) || (decide (op < 0))) || (decide (7 < op))) || (decide (o < 0)))) = true))]) [21, 22, 25, 26, 29, 30, 33, 34, 37, 38] [0, 1, 2, 3, 4, 17] [] hk0 v0 (by refine cc _ ?_ <| cc _ ?_ <| cc _ ?_ <| cc _ ?_ <| cc _ ?_ <| cc _ ?_ <| cc _ ?_ <| cc _ ?_ <| cc _ ?_ <| cc _ ?_ c0 <;> first | omega | (simp; omega) | (simp; done) | (intros; simp_all; omega) | (intros; simp_all; done)) ?_
 refine SW_cond (q := (((((!decide (k = 1)) && (!decide (k = 2))) || (decide (op < 0))) || (decide (7 < op))) || (decide (o < 0))) || (decide (7 < o))) (by kernel_rfl) (fun c1 => ?_) (fun c1 => ?_)
 ·try simp only [Bool.and_eq_true, Bool.or_eq_true, Bool.and_eq_false_iff, Bool.or_eq_false_iff, Bool.not_eq_true', Bool.not_eq_false', decide_eq_true_eq, decide_eq_false_iff_not] at c1
  refine SW_P [] [10, 11] ?_
  refine SW_ret ?_
  refine RK wR [(.bool false), (.int .i64 1)] ?_
  refine Same.of_eq ?_
  simp only [pack]
  rw [show meetsN k op a o b = (false, 1) from by unfold meetsN; rw [if_pos (by omega)]]
 ·try simp only [Bool.and_eq_true, Bool.or_eq_true, Bool.and_eq_false_iff, Bool.or_eq_false_iff, Bool.not_eq_true', Bool.not_eq_false', decide_eq_true_eq, decide_eq_false_iff_not] at c1
  refine SW_H (CS := [(4, ((!(decide (op = 0))) = true → (!(decide (op = 0))) = true)), (5, ((decide (op = 0)) = false → (!(decide (op = 0))) = true))]) [44, 45] [0, 1, 2, 3, 4, 40] [] hk0 v0 (by refine cc _ ?_ <| cc _ ?_ c0 <;> first | omega | (simp; omega) | (simp; done) | (intros; simp_all; omega) | (intros; simp_all; done)) ?_
  refine SW_cond (q := (decide (op = 0)) || (decide (o = 0))) (by kernel_rfl) (fun c2 => ?_) (fun c2 => ?_)
  ·try simp only [Bool.and_eq_true, Bool.or_eq_true, Bool.and_eq_false_iff, Bool.or_eq_false_iff, Bool.not_eq_true', Bool.not_eq_false', decide_eq_true_eq, decide_eq_false_iff_not] at c2
   refine SW_P [] [10, 11] ?_
   refine SW_ret ?_
   refine RK wR [(.bool true), (.int .i64 0)] ?_
   refine Same.of_eq ?_
   simp only [pack]
   rw [show meetsN k op a o b = (true, 0) from by unfold meetsN; rw [if_neg (by omega), if_pos (by omega)]]
  ·try simp only [Bool.and_eq_true, Bool.or_eq_true, Bool.and_eq_false_iff, Bool.or_eq_false_iff, Bool.not_eq_true', Bool.not_eq_false', decide_eq_true_eq, decide_eq_false_iff_not] at c2
   refine SW_skip ?_
   refine SW_H [] [0, 1, 3, 12, 13, 14] [(11, 12), (12, 13)] (hk 3 en_129 (both_ok k a b (by omega) (by omega)) <| hk0) v0 c0 ?_
   refine SW_seq ?_
   refine SW_P [] [0, 1, 3, 12, 13, 14, 56] ?_
   refine SW_ifn (p := ((bothR k a b).2.2) = 0) (by kernel_rfl) (fun c3 => ?_) (fun c3 => ?_)
   ·refine SW_P [] [10, 11] ?_
    refine SW_ret ?_
    refine RK wR [(.bool false), (.int .i64 ((bothR k a b).2.2))] ?_
    refine Same.of_eq ?_
    simp only [pack]
    rw [show meetsN k op a o b = (false, (bothR k a b).2.2) from by unfold meetsN; rw [if_neg (by omega), if_neg (by omega), if_pos (by omega)]]
   ·refine SW_skip ?_
    refine SW_H [] [1, 3, 12, 13, 15, 16] [] (hk 3 en_131 (parts_ok k (bothR k a b).1 (bothR k a b).2.1 ⟨by omega, by omega, by omega⟩ ⟨by omega, by omega, by omega⟩) <| hk0) v0 c0 ?_
    refine SW_C (fun y => ∃ (c : Int), c = meetC (bothR k a b).1.2.2 (bothR k a b).2.1.2.2 (evrPartsN k (bothR k a b).1 (bothR k a b).2.1).1 (evrPartsN k (bothR k a b).1 (bothR k a b).2.1).2 ∧ y = ⟨[(1, (.int .i64 op)), (3, (.int .i64 o)), (15, (.int .i64 c))], [], 2⟩) [1, 3, 15] 2 (by omega) ?_ ?_
    ·refine SW_H (CS := [(4, ((decide (((evrPartsN k (bothR k a b).1 (bothR k a b).2.1).1) = 0)) = true → (decide (((evrPartsN k (bothR k a b).1 (bothR k a b).2.1).1) = 0)) = true)), (5, ((decide (((evrPartsN k (bothR k a b).1 (bothR k a b).2.1).1) = 0)) = true → (decide (((evrPartsN k (bothR k a b).1 (bothR k a b).2.1).1) = 0)) = true)), (6, ((decide (((evrPartsN k (bothR k a b).1 (bothR k a b).2.1).1) = 0)) = true → (decide (((evrPartsN k (bothR k a b).1 (bothR k a b).2.1).1) = 0)) = true)), (9, (((decide (((evrPartsN k (bothR k a b).1 (bothR k a b).2.1).1) = 0)) && (!decide (((bothR k a b).1).2.2 = []))) = true → ((decide (((evrPartsN k (bothR k a b).1 (bothR k a b).2.1).1) = 0)) && (!decide (((bothR k a b).1).2.2 = []))) = true)), (10, (((decide (((evrPartsN k (bothR k a b).1 (bothR k a b).2.1).1) = 0)) && (!decide (((bothR k a b).1).2.2 = []))) = true → ((decide (((evrPartsN k (bothR k a b).1 (bothR k a b).2.1).1) = 0)) && (!decide (((bothR k a b).1).2.2 = []))) = true)), (11, (((decide (((evrPartsN k (bothR k a b).1 (bothR k a b).2.1).1) = 0)) && (!decide (((bothR k a b).1).2.2 = []))) = true → ((decide (((evrPartsN k (bothR k a b).1 (bothR k a b).2.1).1) = 0)) && (!decide (((bothR k a b).1).2.2 = []))) = true))]) [68, 69, 70, 73, 74, 75] [1, 3, 15, 16, 76] [] hk0 v0 (by refine cc _ ?_ <| cc _ ?_ <| cc _ ?_ <| cc _ ?_ <| cc _ ?_ <| cc _ ?_ c0 <;> first | omega | (simp; omega) | (simp; done) | (intros; simp_all; omega) | (intros; simp_all; done)) ?_
     refine SW_cond (q := ((decide (((evrPartsN k (bothR k a b).1 (bothR k a b).2.1).1) = 0)) && (!decide (((bothR k a b).1).2.2 = []))) && (!decide (((bothR k a b).2.1).2.2 = []))) (by kernel_rfl) (fun c4 => ?_) (fun c4 => ?_)
     ·try simp only [Bool.and_eq_true, Bool.or_eq_true, Bool.and_eq_false_iff, Bool.or_eq_false_iff, Bool.not_eq_true', Bool.not_eq_false', decide_eq_true_eq, decide_eq_false_iff_not] at c4
      refine SW_reg ?_
      refine SO_P [] [1, 3, 15] ?_
      refine ⟨by kernel_rfl, ((evrPartsN k (bothR k a b).1 (bothR k a b).2.1).2), ?_, (by kernel_rfl)⟩
      unfold meetC
      rw [if_pos (by simp_all)]
     ·try simp only [Bool.and_eq_true, Bool.or_eq_true, Bool.and_eq_false_iff, Bool.or_eq_false_iff, Bool.not_eq_true', Bool.not_eq_false', decide_eq_true_eq, decide_eq_false_iff_not] at c4
      refine SW_skip ?_
      refine ⟨by kernel_rfl, ((evrPartsN k (bothR k a b).1 (bothR k a b).2.1).1), ?_, (by kernel_rfl)⟩
      unfold meetC
      rw [if_neg (fun q => by simp [q.1, q.2.1, q.2.2] at c4)]
    ·rintro y1 ⟨c, jc, rfl⟩
     refine SW_seq ?_
     refine SW_block ?_
     refine SW_P [] [1, 3, 15, 78] ?_
     refine SW_if (p := c < 0) (by kernel_rfl) (fun c5 => ?_) (fun c5 => ?_)
     ·refine SW_seq ?_
      refine SW_reg ?_
      refine SO_H 1 0 [] [3, 81] [] hk0 v0 c0 ?_
      refine SO_by (s' := [(3, (.int .i64 o)), (81, (.int .i64 op)), (82, (.int .i64 (Go.bits .and .i64 op 4)))]) (.int .i64 (Go.bits .and .i64 op 4)) (by kernel_rfl) (and_by (.inl (by kernel_rfl)) (.inl (by kernel_rfl))) (by kernel_rfl) ?_
      refine SO_H 3 2 [85] [84, 85] [] hk0 v0 c0 ?_
      refine SO_byg (s' := [(84, (.bool (!decide ((Go.bits .and .i64 op 4) = 0)))), (85, (.cond (!(!decide ((Go.bits .and .i64 op 4) = 0))) (.int .i64 o))), (86, (.cond (!(!decide ((Go.bits .and .i64 op 4) = 0))) (.int .i64 (Go.bits .and .i64 o 1))))]) (q := !(!decide ((Go.bits .and .i64 op 4) = 0))) (.int .i64 (Go.bits .and .i64 o 1)) (by kernel_rfl) (fun cg => (and_by (.inr ⟨!(!decide ((Go.bits .and .i64 op 4) = 0)), by kernel_rfl, by first | exact cg | simp_all⟩) (.inl (by kernel_rfl)))) (by kernel_rfl) ?_
      refine SO_HA (CS := [(6, ((!(!decide ((Go.bits .and .i64 op 4) = 0))) = true → (!(!decide ((Go.bits .and .i64 op 4) = 0))) = true)), (7, ((!decide ((Go.bits .and .i64 op 4) = 0)) = false → (!(!decide ((Go.bits .and .i64 op 4) = 0))) = true))]) 6 [87] [10, 11] [] hk0 v0 (by refine cc _ ?_ <| cc _ ?_ c0 <;> first | omega | (simp; omega) | (simp; done) | (intros; simp_all; omega) | (intros; simp_all; done)) ?_
      refine SW_ret ?_
      refine RK wR [(.bool ((!decide ((Go.bits .and .i64 op 4) = 0)) || (!decide ((Go.bits .and .i64 o 1) = 0)))), (.int .i64 0)] ?_
      refine Same.of_eq ?_
      simp only [pack]
      rw [show meetsN k op a o b = (meetO (meetV k a b) op o, 0) from by unfold meetsN; rw [if_neg (by omega), if_neg (by omega), if_neg (by omega)]]
      rw [show meetV k a b = c from jc.symm]
      unfold meetO
      rw [if_pos (by omega)]
     ·refine SW_P [] [1, 3, 89] ?_
      refine SW_if (p := 0 < c) (by kernel_rfl) (fun c6 => ?_) (fun c6 => ?_)
      ·refine SW_seq ?_
       refine SW_reg ?_
       refine SO_H 1 0 [] [3, 92] [] hk0 v0 c0 ?_
       refine SO_by (s' := [(3, (.int .i64 o)), (92, (.int .i64 op)), (93, (.int .i64 (Go.bits .and .i64 op 1)))]) (.int .i64 (Go.bits .and .i64 op 1)) (by kernel_rfl) (and_by (.inl (by kernel_rfl)) (.inl (by kernel_rfl))) (by kernel_rfl) ?_
       refine SO_H 3 2 [96] [95, 96] [] hk0 v0 c0 ?_
       refine SO_byg (s' := [(95, (.bool (!decide ((Go.bits .and .i64 op 1) = 0)))), (96, (.cond (!(!decide ((Go.bits .and .i64 op 1) = 0))) (.int .i64 o))), (97, (.cond (!(!decide ((Go.bits .and .i64 op 1) = 0))) (.int .i64 (Go.bits .and .i64 o 4))))]) (q := !(!decide ((Go.bits .and .i64 op 1) = 0))) (.int .i64 (Go.bits .and .i64 o 4)) (by kernel_rfl) (fun cg => (and_by (.inr ⟨!(!decide ((Go.bits .and .i64 op 1) = 0)), by kernel_rfl, by first | exact cg | simp_all⟩) (.inl (by kernel_rfl)))) (by kernel_rfl) ?_
       refine SO_HA (CS := [(6, ((!(!decide ((Go.bits .and .i64 op 1) = 0))) = true → (!(!decide ((Go.bits .and .i64 op 1) = 0))) = true)), (7, ((!decide ((Go.bits .and .i64 op 1) = 0)) = false → (!(!decide ((Go.bits .and .i64 op 1) = 0))) = true))]) 6 [98] [10, 11] [] hk0 v0 (by refine cc _ ?_ <| cc _ ?_ c0 <;> first | omega | (simp; omega) | (simp; done) | (intros; simp_all; omega) | (intros; simp_all; done)) ?_
       refine SW_ret ?_
       refine RK wR [(.bool ((!decide ((Go.bits .and .i64 op 1) = 0)) || (!decide ((Go.bits .and .i64 o 4) = 0)))), (.int .i64 0)] ?_
       refine Same.of_eq ?_
       simp only [pack]
       rw [show meetsN k op a o b = (meetO (meetV k a b) op o, 0) from by unfold meetsN; rw [if_neg (by omega), if_neg (by omega), if_neg (by omega)]]
       rw [show meetV k a b = c from jc.symm]
       unfold meetO
       rw [if_neg (by omega), if_pos (by omega)]
      ·refine SW_skip ?_
       refine SW_seq ?_
       refine SW_reg ?_
       refine SO_H 2 0 [] [100, 101] [] hk0 v0 c0 ?_
       refine SO_by (s' := [(100, (.int .i64 op)), (101, (.int .i64 o)), (102, (.int .i64 (Go.bits .and .i64 op o)))]) (.int .i64 (Go.bits .and .i64 op o)) (by kernel_rfl) (and_by (.inl (by kernel_rfl)) (.inl (by kernel_rfl))) (by kernel_rfl) ?_
       refine SO_HA 3 [] [10, 11] [] hk0 v0 c0 ?_
       refine SW_ret ?_
       refine RK wR [(.bool (!decide ((Go.bits .and .i64 op o) = 0))), (.int .i64 0)] ?_
       refine Same.of_eq ?_
       simp only [pack]
       rw [show meetsN k op a o b = (meetO (meetV k a b) op o, 0) from by unfold meetsN; rw [if_neg (by omega), if_neg (by omega), if_neg (by omega)]]
       rw [show meetV k a b = c from jc.symm]
       unfold meetO
       rw [if_neg (by omega), if_neg (by omega)]
theorem meets_all : MeetsOk meetsN := fun k op a o b ha hb => meets_ok k op a o b ha hb
end Sv
end Go.Proofs.YtlfjokcbkopfeaaGreatDoor
end
section
namespace Go.Proofs.YtlfjokcbkopfeaaGreatDoor
open Go Go.RowKit
namespace Sv
attribute [local irreducible] SW SO holds
theorem en_35 : Enters Tryz.prog 35 := enters_of Tryz.func35 (by kernel_rfl) rfl
theorem en_34 : Enters Tryz.prog 34 := enters_of Tryz.func34 (by kernel_rfl) rfl
theorem en_25 : Enters Tryz.prog 25 := enters_of Tryz.func25 (by kernel_rfl) rfl
theorem take_nextI {α : Type} [Inhabited α] {l : List α} {i : Nat} (h : i < l.length) : l.take (i + 1) = l.take i ++ [nth l i] := by
 rw [List.take_add_one, nth_eq h]; rfl
theorem range_cutI {α β : Type} [Inhabited α] {l : List α} {i m : Nat} (f : α → β) (h : i + m ≤ l.length) : (List.range m).map (fun k => f (nth l (i + k))) = ((l.drop i).take m).map f := by
 refine List.ext_getElem (by simp; omega) fun j h1 h2 => ?_
 simp only [List.length_map, List.length_range] at h1
 simp only [List.getElem_map, List.getElem_range, List.getElem_take, List.getElem_drop, nth, List.getElem?_eq_getElem (show i + j < l.length by omega), Option.getD_some]
theorem range_tailI {α β : Type} [Inhabited α] {l : List α} {i : Nat} (f : α → β) (h : i ≤ l.length) : (List.range (l.length - i)).map (fun k => f (nth l (i + k))) = (l.drop i).map f := by
 rw [range_cutI f (by omega), List.take_of_length_le (by simp)]
def put1 (n : Int) : List Int → List Int
 | [] => [n]
 | x :: r => if x < n then x :: put1 n r else if x = n then x :: r else n :: x :: r
theorem put1_go {n : Int} {l : List Int} {i : Nat} (hi : i < l.length) (h : nth l i < n) : put1 n (l.drop i) = nth l i :: put1 n (l.drop (i + 1)) := by rw [drop_nth hi, put1, if_pos h]
theorem put1_is {n : Int} {l : List Int} {i : Nat} (hi : i < l.length) (h : ¬ nth l i < n) (h2 : nth l i = n) : put1 n (l.drop i) = l.drop i := by rw [drop_nth hi, put1, if_neg h, if_pos h2]
theorem put1_new {n : Int} {l : List Int} {i : Nat} (h : i < l.length → ¬ nth l i < n ∧ ¬ nth l i = n) : put1 n (l.drop i) = n :: l.drop i := by
 by_cases hi : i < l.length
 ·rw [drop_nth hi, put1, if_neg (h hi).1, if_neg (h hi).2]
 ·rw [List.drop_eq_nil_of_le (by omega)]; rfl
theorem put1_len (n : Int) : ∀ l : List Int, (put1 n l).length ≤ l.length + 1
 | [] => Nat.le_refl _
 | x :: r => by
  have := put1_len n r
  unfold put1
  split
  ·simp only [List.length_cons]; omega
  ·split <;> simp
theorem put1_mem {x n : Int} : ∀ {l : List Int}, x ∈ put1 n l ↔ x = n ∨ x ∈ l
 | [] => by simp [put1]
 | y :: r => by
  unfold put1
  split
  ·rw [List.mem_cons, put1_mem, List.mem_cons]
   constructor
   ·rintro (h | h | h) <;> simp [h]
   ·rintro (h | h | h) <;> simp [h]
  ·split
   ·rename_i h; subst h; simp
   ·rw [List.mem_cons]
def RiseI : List Int → Prop
 | [] => True
 | x :: r => (∀ y ∈ r, x < y) ∧ RiseI r
theorem put1_rise {n : Int} : ∀ {l : List Int}, RiseI l → RiseI (put1 n l)
 | [], _ => ⟨by simp, trivial⟩
 | y :: r, h => by
  unfold put1
  split
  ·rename_i hy
   refine ⟨fun z hz => ?_, put1_rise h.2⟩
   rcases put1_mem.1 hz with rfl | hz
   ·exact hy
   ·exact h.1 z hz
  ·split
   ·exact h
   ·rename_i h1 h2
    refine ⟨fun z hz => ?_, h⟩
    rcases List.mem_cons.1 hz with rfl | hz
    ·omega
    ·have := h.1 z hz; omega
def idN (n : Nat) (x : Int) : Int := Int.tmod (if x < 0 then 0 - (x + 1) else x) (n : Int)
def allG (n : Nat) (l : List Int) : List Int := l.foldl (fun s x => put1 (idN n x) s) []
def allP (n : Nat) (l : List Int) : List Int := if n = 0 then [] else allG n l
theorem allG_next {n : Nat} {l : List Int} {i : Nat} (h : i < l.length) : allG n (l.take (i + 1)) = put1 (idN n (nth l i)) (allG n (l.take i)) := by
 unfold allG; rw [take_nextI h, List.foldl_append]; rfl
theorem foldl_put1 {n : Nat} : ∀ {l s : List Int}, (l.foldl (fun s x => put1 (idN n x) s) s).length ≤ s.length + l.length
 | [], s => Nat.le_refl _
 | x :: l, s => by
  have h1 := foldl_put1 (n := n) (l := l) (s := put1 (idN n x) s)
  have h2 := put1_len (idN n x) s
  simp only [List.foldl_cons, List.length_cons]; omega
theorem allG_len (n : Nat) (l : List Int) : (allG n l).length ≤ l.length := by have := foldl_put1 (n := n) (l := l) (s := []); simpa [allG] using this
theorem allP_len (n : Nat) (l : List Int) : (allP n l).length ≤ l.length := by
 unfold allP
 split
 ·simp
 ·exact allG_len n l
theorem foldl_mem {n : Nat} {x : Int} : ∀ {l s : List Int}, x ∈ l.foldl (fun s x => put1 (idN n x) s) s ↔ x ∈ s ∨ ∃ y ∈ l, x = idN n y
 | [], s => by simp
 | y :: l, s => by
  rw [List.foldl_cons, foldl_mem, put1_mem]
  constructor
  ·rintro ((h | h) | ⟨z, hz, h⟩)
   ·exact .inr ⟨y, by simp, h⟩
   ·exact .inl h
   ·exact .inr ⟨z, by simp [hz], h⟩
  ·rintro (h | ⟨z, hz, h⟩)
   ·exact .inl (.inr h)
   ·rcases List.mem_cons.1 hz with rfl | hz
    ·exact .inl (.inl h)
    ·exact .inr ⟨z, hz, h⟩
theorem allP_mem {n : Nat} {l : List Int} {x : Int} : x ∈ allP n l ↔ ¬ n = 0 ∧ ∃ y ∈ l, x = idN n y := by
 unfold allP
 split
 ·rename_i h; simp [h]
 ·rename_i h; unfold allG; rw [foldl_mem]; simp [h]
theorem foldl_rise {n : Nat} : ∀ {l s : List Int}, RiseI s → RiseI (l.foldl (fun s x => put1 (idN n x) s) s)
 | [], s, h => h
 | x :: l, s, h => foldl_rise (l := l) (put1_rise h)
theorem allP_rise (n : Nat) (l : List Int) : RiseI (allP n l) := by
 unfold allP
 split
 ·trivial
 ·exact foldl_rise (s := []) trivial
theorem idN_in {n : Nat} (h : ¬ n = 0) (x : Int) : 0 ≤ idN n x ∧ idN n x < n := by
 unfold idN
 have h0 : 0 ≤ (if x < 0 then 0 - (x + 1) else x) := by split <;> omega
 rw [Int.tmod_eq_emod_of_nonneg h0]
 exact ⟨Int.emod_nonneg _ (by omega), Int.emod_lt_of_pos _ (by omega)⟩
theorem allP_in {n : Nat} {l : List Int} {x : Int} (h : x ∈ allP n l) : 0 ≤ x ∧ x < n := by
 obtain ⟨h0, y, _, rfl⟩ := allP_mem.1 h
 exact idN_in h0 y
set_option maxHeartbeats 400000 in
set_option maxRecDepth 100000 in
theorem put1_ok (l : List Int) (n : Int) (hl : l.length ≤ 4611686018427) :
  FnV Tryz.prog 35 [(nums l), (.int .i64 n)] (nums (put1 n l)) := by
 refine FnV_intro [.tmp 4] Tryz.func35 rfl Tryz.ntmps35 rfl rfl (fun B F hF => ?_)
 refine SW_P [] [0, 1] ?_
 refine SW_P [] [0, 1, 5] ?_
 refine SW_seq ?_
 refine SW_block ?_
 refine SW_L (fun g y => ∃ (i : Nat), i ≤ l.length ∧ put1 n l = l.take i ++ put1 n (l.drop i) ∧ y = ⟨[(0, (nums l)), (1, (.int .i64 n)), (5, (.int .i64 ((i : Int))))], [], 0⟩ ∧ g = l.length - i) [0, 1, 5] 0 _ (by omega) ⟨0, (by omega), (by rfl), (by kernel_rfl), rfl⟩ ?_
 rintro g1 y1 ⟨i, f1_1, f1_2, rfl, rfl⟩
 refine SW_seq ?_
 obtain ⟨b1, hb1⟩ : ∃ b, b = (decide ((i : Int) < (l.length : Int))) := ⟨_, rfl⟩
 refine SW_H (CS := [(7, (b1 = true → (b1 = true ∧ b1 = true) ∧ (0 ≤ (i : Int) ∧ i < l.length))), (8, (b1 = true → b1 = true)), (10, (b1 = true → b1 = true ∧ b1 = true)), (11, (b1 = true → b1 = true))]) [11, 12, 13, 14, 15, 16] [0, 1, 5, 17] [] hk0 (vk 5 10 (a := .bool (decide ((i : Int) < (l.length : Int)))) (b := .bool b1) (Imp.of_eq (by rw [hb1])) <| v0) (by refine cc _ ?_ <| cc _ ?_ <| cc _ ?_ <| cc _ ?_ c0 <;> first | omega | (simp; omega) | (simp; done) | (intros; simp_all; omega) | (intros; simp_all; done)) ?_
 refine SW_cond (q := b1 && (decide ((nth l i) < n))) (by kernel_rfl) (fun c1 => ?_) (fun c1 => ?_)
 ·subst hb1
  try simp only [Bool.and_eq_true, Bool.or_eq_true, Bool.and_eq_false_iff, Bool.or_eq_false_iff, Bool.not_eq_true', Bool.not_eq_false', decide_eq_true_eq, decide_eq_false_iff_not] at c1
  refine SW_skip ?_
  refine SW_block ?_
  refine SW_reg ?_
  refine SO_HA 0 [] [0, 1, 5] [] hk0 v0 (cc 1 (p := (-9223372036854775808 ≤ (i : Int) + 1 ∧ (i : Int) + 1 ≤ 9223372036854775807)) (by first | omega | (simp; omega) | (simp; done) | (intros; simp_all; omega) | (intros; simp_all; done)) <| c0) ?_
  refine ⟨by kernel_rfl, _, ?_, i + 1, ?_, ?_, (by kernel_rfl), rfl⟩
  all_goals first | omega | skip
  rw [f1_2, put1_go (by omega) (by simp_all), take_nextI (by omega), List.append_assoc]; rfl
 ·subst hb1
  try simp only [Bool.and_eq_true, Bool.or_eq_true, Bool.and_eq_false_iff, Bool.or_eq_false_iff, Bool.not_eq_true', Bool.not_eq_false', decide_eq_true_eq, decide_eq_false_iff_not] at c1
  refine SW_exit ?_
  refine SW_seq ?_
  obtain ⟨b2, hb2⟩ : ∃ b, b = (decide ((i : Int) < (l.length : Int))) := ⟨_, rfl⟩
  refine SW_H (CS := [(7, (b2 = true → (b2 = true ∧ b2 = true) ∧ (0 ≤ (i : Int) ∧ i < l.length))), (8, (b2 = true → b2 = true)), (10, (b2 = true → b2 = true ∧ b2 = true)), (11, (b2 = true → b2 = true))]) [25, 26, 27, 28, 29, 30] [0, 1, 5, 31] [] hk0 (vk 5 24 (a := .bool (decide ((i : Int) < (l.length : Int)))) (b := .bool b2) (Imp.of_eq (by rw [hb2])) <| v0) (by refine cc _ ?_ <| cc _ ?_ <| cc _ ?_ <| cc _ ?_ c0 <;> first | omega | (simp; omega) | (simp; done) | (intros; simp_all; omega) | (intros; simp_all; done)) ?_
  refine SW_cond (q := b2 && (decide ((nth l i) = n))) (by kernel_rfl) (fun c2 => ?_) (fun c2 => ?_)
  ·subst hb2
   try simp only [Bool.and_eq_true, Bool.or_eq_true, Bool.and_eq_false_iff, Bool.or_eq_false_iff, Bool.not_eq_true', Bool.not_eq_false', decide_eq_true_eq, decide_eq_false_iff_not] at c2
   refine SW_P [] [4] ?_
   refine SW_ret ?_
   refine RK wR [(nums l)] ?_
   exact Same.of_eq (by rw [f1_2, put1_is (by omega) (by simp_all) (by simp_all), List.take_append_drop]; rfl)
  ·subst hb2
   try simp only [Bool.and_eq_true, Bool.or_eq_true, Bool.and_eq_false_iff, Bool.or_eq_false_iff, Bool.not_eq_true', Bool.not_eq_false', decide_eq_true_eq, decide_eq_false_iff_not] at c2
   refine SW_skip ?_
   refine SW_seq ?_
   refine SW_draw (by kernel_rfl) (fun F1 hF1 => ?_)
   refine SG_F (fuel := 6) [] [1, 2, 3, 5, 8, 9, 10] [36, 38, 43] (hold (p := (0 ≤ (0 : Int) ∧ (0 : Int) ≤ (i : Int) ∧ (i : Int) ≤ (l.length : Int)) ∧ (0 ≤ (i : Int) ∧ (i : Int) ≤ (l.length : Int) ∧ (l.length : Int) ≤ (l.length : Int))) (by first | omega | (simp; omega) | (simp; done) | (intros; simp_all; omega) | (intros; simp_all; done))) ?_
   refine SG_two 0 6 (by kernel_rfl) ?_ ?_
   ·refine SN_I (fuel := 5) 0 [] hold0 ?_
    refine SG_S [33, 36, 38, 43] ?_
    refine SG_two 4 6 (by kernel_rfl) ?_ ?_
    ·refine SN_I (fuel := 4) 4 [] (hold (p := ((([] : List AV).length + (i - 0)) * 8 ≤ 140737488355328)) (by first | omega | (simp; omega) | (simp; done) | (intros; simp_all; omega) | (intros; simp_all; done))) ?_
     refine SG_S [37, 38, 43] ?_
     refine SG_I (fuel := 3) 6 [] hold0 ?_
     refine SG_I (fuel := 2) 7 [] (hold (p := (((([] : List AV) ++ ((List.range (i - 0)).map (fun kx => ((.int .i64 (nth l (0 + kx))) : AV)))).length + 1) * 8 ≤ 140737488355328)) (by first | omega | (simp; omega) | (simp; done) | (intros; simp_all; omega) | (intros; simp_all; done))) ?_
     refine SG_I (fuel := 1) 11 [] (hold (p := ((((([] : List AV) ++ ((List.range (i - 0)).map (fun kx => ((.int .i64 (nth l (0 + kx))) : AV)))) ++ ([(.int .i64 n)] : List AV)).length + (l.length - i)) * 8 ≤ 140737488355328)) (by first | omega | (simp; omega) | (simp; done) | (intros; simp_all; omega) | (intros; simp_all; done))) ?_
     refine SG_F (fuel := 0) [] [12] [4] hold0 ?_
     refine SG_S [4] ?_
     refine SG_done (by kernel_rfl) ?_
     refine SW_ret ?_
     refine RK wR [(.row 1 (((([] : List AV) ++ ((List.range (i - 0)).map (fun kx => ((.int .i64 (nth l (0 + kx))) : AV)))) ++ ([(.int .i64 n)] : List AV)) ++ ((List.range (l.length - i)).map (fun kx => ((.int .i64 (nth l (i + kx))) : AV)))).length (fun ix => (((([] : List AV) ++ ((List.range (i - 0)).map (fun kx => ((.int .i64 (nth l (0 + kx))) : AV)))) ++ ([(.int .i64 n)] : List AV)) ++ ((List.range (l.length - i)).map (fun kx => ((.int .i64 (nth l (i + kx))) : AV)))).getD ix junk))] ?_
     simp only [pack]
     exact Same.grown (f := AV.int .i64) (l := put1 n l) (by rw [f1_2, put1_new (fun _ => by simp_all), range_cutI (AV.int .i64) (by omega), range_tailI (AV.int .i64) (by omega)]; simp [chunk])
    ·refine SN_I (fuel := 4) 6 [] hold0 ?_
     refine SG_S [33, 36, 39, 43] ?_
     refine SG_I (fuel := 3) 4 [] (hold (p := ((([] : List AV).length + (i - 0)) * 8 ≤ 140737488355328)) (by first | omega | (simp; omega) | (simp; done) | (intros; simp_all; omega) | (intros; simp_all; done))) ?_
     refine SG_I (fuel := 2) 7 [] (hold (p := (((([] : List AV) ++ ((List.range (i - 0)).map (fun kx => ((.int .i64 (nth l (0 + kx))) : AV)))).length + 1) * 8 ≤ 140737488355328)) (by first | omega | (simp; omega) | (simp; done) | (intros; simp_all; omega) | (intros; simp_all; done))) ?_
     refine SG_I (fuel := 1) 11 [] (hold (p := ((((([] : List AV) ++ ((List.range (i - 0)).map (fun kx => ((.int .i64 (nth l (0 + kx))) : AV)))) ++ ([(.int .i64 n)] : List AV)).length + (l.length - i)) * 8 ≤ 140737488355328)) (by first | omega | (simp; omega) | (simp; done) | (intros; simp_all; omega) | (intros; simp_all; done))) ?_
     refine SG_F (fuel := 0) [] [12] [4] hold0 ?_
     refine SG_S [4] ?_
     refine SG_done (by kernel_rfl) ?_
     refine SW_ret ?_
     refine RK wR [(.row 1 (((([] : List AV) ++ ((List.range (i - 0)).map (fun kx => ((.int .i64 (nth l (0 + kx))) : AV)))) ++ ([(.int .i64 n)] : List AV)) ++ ((List.range (l.length - i)).map (fun kx => ((.int .i64 (nth l (i + kx))) : AV)))).length (fun ix => (((([] : List AV) ++ ((List.range (i - 0)).map (fun kx => ((.int .i64 (nth l (0 + kx))) : AV)))) ++ ([(.int .i64 n)] : List AV)) ++ ((List.range (l.length - i)).map (fun kx => ((.int .i64 (nth l (i + kx))) : AV)))).getD ix junk))] ?_
     simp only [pack]
     exact Same.grown (f := AV.int .i64) (l := put1 n l) (by rw [f1_2, put1_new (fun _ => by simp_all), range_cutI (AV.int .i64) (by omega), range_tailI (AV.int .i64) (by omega)]; simp [chunk])
   ·refine SN_I (fuel := 5) 6 [] hold0 ?_
    refine SG_S [36, 39, 43] ?_
    refine SG_I (fuel := 4) 0 [] hold0 ?_
    refine SG_I (fuel := 3) 4 [] (hold (p := ((([] : List AV).length + (i - 0)) * 8 ≤ 140737488355328)) (by first | omega | (simp; omega) | (simp; done) | (intros; simp_all; omega) | (intros; simp_all; done))) ?_
    refine SG_I (fuel := 2) 7 [] (hold (p := (((([] : List AV) ++ ((List.range (i - 0)).map (fun kx => ((.int .i64 (nth l (0 + kx))) : AV)))).length + 1) * 8 ≤ 140737488355328)) (by first | omega | (simp; omega) | (simp; done) | (intros; simp_all; omega) | (intros; simp_all; done))) ?_
    refine SG_I (fuel := 1) 11 [] (hold (p := ((((([] : List AV) ++ ((List.range (i - 0)).map (fun kx => ((.int .i64 (nth l (0 + kx))) : AV)))) ++ ([(.int .i64 n)] : List AV)).length + (l.length - i)) * 8 ≤ 140737488355328)) (by first | omega | (simp; omega) | (simp; done) | (intros; simp_all; omega) | (intros; simp_all; done))) ?_
    refine SG_F (fuel := 0) [] [12] [4] hold0 ?_
    refine SG_S [4] ?_
    refine SG_done (by kernel_rfl) ?_
    refine SW_ret ?_
    refine RK wR [(.row 1 (((([] : List AV) ++ ((List.range (i - 0)).map (fun kx => ((.int .i64 (nth l (0 + kx))) : AV)))) ++ ([(.int .i64 n)] : List AV)) ++ ((List.range (l.length - i)).map (fun kx => ((.int .i64 (nth l (i + kx))) : AV)))).length (fun ix => (((([] : List AV) ++ ((List.range (i - 0)).map (fun kx => ((.int .i64 (nth l (0 + kx))) : AV)))) ++ ([(.int .i64 n)] : List AV)) ++ ((List.range (l.length - i)).map (fun kx => ((.int .i64 (nth l (i + kx))) : AV)))).getD ix junk))] ?_
    simp only [pack]
    exact Same.grown (f := AV.int .i64) (l := put1 n l) (by rw [f1_2, put1_new (fun _ => by simp_all), range_cutI (AV.int .i64) (by omega), range_tailI (AV.int .i64) (by omega)]; simp [chunk])
set_option maxHeartbeats 400000 in
set_option maxRecDepth 100000 in
theorem rLen_ok (st : PoolT) (pl : List (Int × Int)) :
  FnV Tryz.prog 34 [(.fp (poolR st pl))] (.int .i64 ((pl.length : Int))) := by
 refine FnV_intro [.tmp 2] Tryz.func34 rfl Tryz.ntmps34 rfl rfl (fun B F hF => ?_)
 refine SW_P [] [0] ?_
 refine SW_P [] [2] ?_
 refine SW_ret ?_
 refine RK wR [(.int .i64 ((pl.length : Int)))] ?_
 exact Same.of_eq (by first | rfl | (simp only [pack]; simp_all))
set_option maxHeartbeats 1000000 in
set_option maxRecDepth 100000 in
theorem rAll_ok (st : PoolT) (pl : List (Int × Int)) (raw : List Int) (hpl : pl.length ≤ 200) (hr : raw.length ≤ 4611686018426) (hb : ∀ i, i < raw.length → -9223372036854775808 ≤ nth raw i ∧ nth raw i ≤ 9223372036854775807) :
  FnV Tryz.prog 25 [(.fp (poolR st pl)), (nums raw)] (nums (allP pl.length raw)) := by
 refine FnV_intro [.tmp 4] Tryz.func25 rfl Tryz.ntmps25 rfl rfl (fun B F hF => ?_)
 refine SW_P [] [0, 1] ?_
 refine SW_P [] [0, 1, 5] ?_
 refine SW_seq ?_
 refine SW_seq ?_
 refine SW_reg ?_
 refine SO_conv 5 (nums []) (by kernel_rfl) Imp.nil ?_
 refine SO_P [] [0, 1, 5, 6] ?_
 refine SW_block ?_
 refine SW_L (fun g y => ∃ (i : Nat), i ≤ raw.length ∧ (pl.length = 0 → i = 0) ∧ y = ⟨[(0, (.fp (poolR st pl))), (1, (nums raw)), (5, (nums (allG pl.length (raw.take i)))), (6, (.int .i64 ((i : Int))))], [], 0⟩ ∧ g = raw.length - i) [0, 1, 5, 6] 0 _ (by omega) ⟨0, (by omega), (by exact fun _ => rfl), (by kernel_rfl), rfl⟩ ?_
 rintro g1 y1 ⟨i, f1_1, f1_2, rfl, rfl⟩
 refine SW_seq ?_
 obtain ⟨b1, hb1⟩ : ∃ b, b = (decide ((i : Int) < (raw.length : Int))) := ⟨_, rfl⟩
 refine SW_H (CS := [(6, b1 = true → b1 = true), (7, (b1 = true → b1 = true)), (8, (b1 = true → b1 = true))]) [13, 15] [0, 1, 5, 6, 16] [] (hkg 6 b1 en_34 (fun cg => rLen_ok st pl) <| hk0) (vk 5 12 (a := .bool (decide ((i : Int) < (raw.length : Int)))) (b := .bool b1) (Imp.of_eq (by rw [hb1])) <| v0) (by refine cc _ ?_ <| cc _ ?_ <| cc _ ?_ c0 <;> first | omega | (simp; omega) | (simp; done) | (intros; simp_all; omega) | (intros; simp_all; done)) ?_
 refine SW_cond (q := b1 && (decide (0 < (pl.length : Int)))) (by kernel_rfl) (fun c1 => ?_) (fun c1 => ?_)
 ·subst hb1
  try simp only [Bool.and_eq_true, Bool.or_eq_true, Bool.and_eq_false_iff, Bool.or_eq_false_iff, Bool.not_eq_true', Bool.not_eq_false', decide_eq_true_eq, decide_eq_false_iff_not] at c1
  have hbi := hb i (by omega)
  refine SW_skip ?_
  refine SW_seq ?_
  refine SW_block ?_
  refine SW_H [] [0, 1, 5, 6, 7] [] hk0 v0 (cc 2 (p := (0 ≤ (i : Int) ∧ i < raw.length)) (by first | omega | (simp; omega) | (simp; done) | (intros; simp_all; omega) | (intros; simp_all; done)) <| c0) ?_
  refine SW_C (fun y => ∃ (v : Int), v = (if nth raw i < 0 then 0 - (nth raw i + 1) else nth raw i) ∧ y = ⟨[(0, (.fp (poolR st pl))), (1, (nums raw)), (5, (nums (allG pl.length (raw.take i)))), (6, (.int .i64 ((i : Int)))), (7, (.int .i64 v))], [], 0⟩) [0, 1, 5, 6, 7] 0 (by omega) ?_ ?_
  ·refine SW_P [] [0, 1, 5, 6, 7, 24] ?_
   refine SW_if (p := (nth raw i) < 0) (by kernel_rfl) (fun c2 => ?_) (fun c2 => ?_)
   ·refine SW_reg ?_
    refine SO_HA (CS := [(1, (-9223372036854775808 ≤ (nth raw i) + 1 ∧ (nth raw i) + 1 ≤ 9223372036854775807)), (2, (-9223372036854775808 ≤ 0 - ((nth raw i) + 1) ∧ 0 - ((nth raw i) + 1) ≤ 9223372036854775807))]) 0 [] [0, 1, 5, 6, 7] [] hk0 v0 (by refine cc _ ?_ <| cc _ ?_ c0 <;> first | omega | (simp; omega) | (simp; done) | (intros; simp_all; omega) | (intros; simp_all; done)) ?_
    refine ⟨by kernel_rfl, (0 - ((nth raw i) + 1)), ?_, (by kernel_rfl)⟩
    rw [if_pos c2]
   ·refine SW_skip ?_
    refine ⟨by kernel_rfl, (nth raw i), ?_, (by kernel_rfl)⟩
    rw [if_neg c2]
  ·rintro y1 ⟨v, jy, rfl⟩
   refine SW_reg ?_
   refine SO_HA 0 [] [0, 1, 5, 6] [] (hk 3 en_34 (rLen_ok st pl) <| hk 5 en_35 (put1_ok (allG pl.length (raw.take i)) (Int.tmod v (pl.length : Int)) (by have := allG_len pl.length (raw.take i); rw [List.length_take] at this; omega)) <| hk0) v0 (cc 4 (p := ((pl.length : Int) ≠ 0)) (by first | omega | (simp; omega) | (simp; done) | (intros; simp_all; omega) | (intros; simp_all; done)) <| c0) ?_
   refine SW_reg ?_
   refine SO_HA 0 [] [0, 1, 5, 6] [] hk0 v0 (cc 1 (p := (-9223372036854775808 ≤ (i : Int) + 1 ∧ (i : Int) + 1 ≤ 9223372036854775807)) (by first | omega | (simp; omega) | (simp; done) | (intros; simp_all; omega) | (intros; simp_all; done)) <| c0) ?_
   refine ⟨by kernel_rfl, _, ?_, i + 1, ?_, ?_, (Eq.trans (b := (⟨[(0, (.fp (poolR st pl))), (1, (nums raw)), (5, (nums (put1 (Int.tmod v (pl.length : Int)) (allG pl.length (raw.take i))))), (6, (.int .i64 ((i : Int) + 1)))], [], 0⟩ : St)) (by kernel_rfl) (by rw [show Int.tmod v (pl.length : Int) = idN pl.length (nth raw i) from by rw [jy]; rfl, ← allG_next (by omega)] <;> kernel_rfl)), rfl⟩
   all_goals omega
 ·subst hb1
  try simp only [Bool.and_eq_true, Bool.or_eq_true, Bool.and_eq_false_iff, Bool.or_eq_false_iff, Bool.not_eq_true', Bool.not_eq_false', decide_eq_true_eq, decide_eq_false_iff_not] at c1
  refine SW_exit ?_
  refine SW_P [] [4] ?_
  refine SW_ret ?_
  refine RK wR [(nums (allG pl.length (raw.take i)))] ?_
  refine Same.of_eq ?_
  simp only [pack]
  unfold allP
  by_cases h0 : pl.length = 0
  ·rw [if_pos h0, f1_2 h0]; rfl
  ·rw [if_neg h0, show i = raw.length from by omega, List.take_length]
end Sv
end Go.Proofs.YtlfjokcbkopfeaaGreatDoor
end
section
namespace Go.Proofs.YtlfjokcbkopfeaaGreatDoor
open Go Go.RowKit
namespace Sv
def PkgsAt (st : PoolT) (pl : List (Int × Int)) : Prop := pl.length = st.all.length ∧ ∀ i, i < st.all.length → 0 ≤ (nth pl i).1 ∧ (nth pl i).1 < st.repos.length ∧ 0 ≤ (nth pl i).2 ∧ (nth pl i).2 < (nth st.repos (nth pl i).1.toNat).pkgs.length ∧
  nth (nth st.repos (nth pl i).1.toNat).pkgs (nth pl i).2.toNat = (nth st.all i).1 ∧ (nth pl i).1 = (nth st.all i).2
def AllIn (l : List RepoT) (st : PoolT) : Prop := ∀ q ∈ st.all, ∃ r ∈ l, q.1 ∈ r.pkgs
theorem nth_app_l {α : Type} [Inhabited α] {l m : List α} {i : Nat} (h : i < l.length) : nth (l ++ m) i = nth l i := by
  simp only [nth]; rw [List.getElem?_append_left h]
theorem nth_app_r {α : Type} [Inhabited α] {l m : List α} {i : Nat} (h : l.length ≤ i) : nth (l ++ m) i = nth m (i - l.length) := by
  simp only [nth]; rw [List.getElem?_append_right h]
theorem bothTo_snoc {k : Int} {l : List RepoT} {r : RepoT} : bothTo k (l ++ [r]) = (addS (bothTo k l).1 r, addA (bothTo k l).2 (bothTo k l).1 r) := by
  unfold bothTo; rw [List.foldl_append]; rfl
theorem snoc_ind {α : Type} {C : List α → Prop} (h0 : C []) (h : ∀ l a, C l → C (l ++ [a])) (l : List α) : C l := by
  rw [← List.reverse_reverse l]
  induction l.reverse with
  | nil => exact h0
  | cons a r ih => rw [List.reverse_cons]; exact h _ _ ih
theorem bothTo_in (k : Int) : ∀ l : List RepoT, AllIn l (bothTo k l).1 := by
  refine snoc_ind (C := fun l => AllIn l (bothTo k l).1) (fun q hq => by cases hq) fun l r ih => ?_
  rw [bothTo_snoc]
  intro q hq
  have old : q ∈ (bothTo k l).1.all → ∃ r' ∈ l ++ [r], q.1 ∈ r'.pkgs := fun h => by
    obtain ⟨r', h1, h2⟩ := ih q h
    exact ⟨r', List.mem_append_left _ h1, h2⟩
  unfold addS at hq
  split at hq
  · simp only [keptsTo, List.take_length] at hq
    rcases List.mem_append.1 hq with h | h
    · exact old h
    · obtain ⟨p, hp, rfl⟩ := List.mem_map.1 h
      exact ⟨r, by simp, hp⟩
  · exact old hq
theorem bothTo_idx {k : Int} {l : List RepoT} (h : ∀ i, i < l.length → (nth l i).size ≤ 4194304) : IdxOk (bothTo k l).1 := by
  refine ⟨(bothTo_ok k l).2.1, fun i hi => ?_⟩
  obtain ⟨r, hr, hp⟩ := bothTo_in k l (nth (bothTo k l).1.all i) (by rw [nth_at hi]; exact List.getElem_mem hi)
  obtain ⟨a, ha, rfl⟩ := List.getElem_of_mem hr
  obtain ⟨b, hb, e⟩ := List.getElem_of_mem hp
  have h1 := RepoT.size_pkg hb
  have h2 := h a ha
  rw [nth_at ha] at h2
  rw [nth_at hb, e] at h1
  omega
theorem bothTo_at (k : Int) : ∀ l : List RepoT, PkgsAt (bothTo k l).1 (bothTo k l).2 := by
  refine snoc_ind (C := fun l => PkgsAt (bothTo k l).1 (bothTo k l).2) ⟨rfl, fun i hi => by simp [bothTo] at hi⟩ fun l r ih => ?_
  rw [bothTo_snoc]
  generalize (bothTo k l).1 = st at ih
  generalize (bothTo k l).2 = pl at ih
  show PkgsAt (addS st r) (addA pl st r)
  by_cases he : addE st r = 0
  · have e1 : addS st r = ⟨st.kind, st.repos ++ [r], keptsTo st r r.pkgs.length⟩ := if_pos he
    have e2 : addA pl st r = atTo pl st r r.pkgs.length := if_pos he
    rw [e1, e2]
    have hl : (keptsTo st r r.pkgs.length).length = st.all.length + r.pkgs.length := by simp [keptsTo]
    have hl2 : (atTo pl st r r.pkgs.length).length = pl.length + r.pkgs.length := by simp [atTo]
    refine ⟨by show (atTo pl st r r.pkgs.length).length = (keptsTo st r r.pkgs.length).length; rw [hl, hl2, ih.1], fun i hi => ?_⟩
    have hi : i < (keptsTo st r r.pkgs.length).length := hi
    rw [hl] at hi
    show 0 ≤ (nth (atTo pl st r r.pkgs.length) i).1 ∧ (nth (atTo pl st r r.pkgs.length) i).1 < ((st.repos ++ [r]).length : Int) ∧ 0 ≤ (nth (atTo pl st r r.pkgs.length) i).2 ∧ (nth (atTo pl st r r.pkgs.length) i).2 < ((nth (st.repos ++ [r]) (nth (atTo pl st r r.pkgs.length) i).1.toNat).pkgs.length : Int) ∧ nth (nth (st.repos ++ [r]) (nth (atTo pl st r r.pkgs.length) i).1.toNat).pkgs (nth (atTo pl st r r.pkgs.length) i).2.toNat = (nth (keptsTo st r r.pkgs.length) i).1 ∧ (nth (atTo pl st r r.pkgs.length) i).1 = (nth (keptsTo st r r.pkgs.length) i).2
    unfold atTo keptsTo
    by_cases h : i < st.all.length
    · have k := ih.2 i h
      rw [nth_app_l (l := pl) (by rw [ih.1]; exact h), nth_app_l (l := st.all) h, nth_app_l (l := st.repos) (by omega)]
      exact ⟨k.1, by rw [List.length_append]; omega, k.2.2.1, k.2.2.2.1, k.2.2.2.2.1, k.2.2.2.2.2⟩
    · obtain ⟨j, rfl⟩ : ∃ j, i = st.all.length + j := ⟨i - st.all.length, by omega⟩
      have hj : j < r.pkgs.length := by omega
      rw [nth_app_r (l := pl) (by rw [ih.1]; omega), nth_app_r (l := st.all) (by omega), show st.all.length + j - pl.length = j by rw [ih.1]; omega, show st.all.length + j - st.all.length = j by omega, List.take_length]
      have a1 : nth ((List.range r.pkgs.length).map fun (k : Nat) => ((st.repos.length : Int), (k : Int))) j = ((st.repos.length : Int), (j : Int)) := by simp [nth, hj]
      have a2 : nth (r.pkgs.map fun p => (p, (st.repos.length : Int))) j = (nth r.pkgs j, (st.repos.length : Int)) := by simp [nth, hj]
      rw [a1, a2]
      have a3 : nth (st.repos ++ [r]) ((st.repos.length : Int)).toNat = r := by rw [nth_app_r (by simp)]; simp [nth]
      refine ⟨Int.natCast_nonneg _, by rw [List.length_append, List.length_singleton]; show (st.repos.length : Int) < _; omega, Int.natCast_nonneg _, ?_, ?_, rfl⟩
      · show (j : Int) < ((nth (st.repos ++ [r]) ((st.repos.length : Int)).toNat).pkgs.length : Int)
        rw [a3]; omega
      · show nth (nth (st.repos ++ [r]) ((st.repos.length : Int)).toNat).pkgs ((j : Int)).toNat = nth r.pkgs j
        rw [a3]; rfl
  · have e1 : addS st r = st := if_neg he
    have e2 : addA pl st r = pl := if_neg he
    rw [e1, e2]; exact ih
end Sv
end Go.Proofs.YtlfjokcbkopfeaaGreatDoor
end
section
namespace Go.Proofs.YtlfjokcbkopfeaaGreatDoor
open Go Go.RowKit
namespace Sv
attribute [local irreducible] SW SO holds
end Sv
end Go.Proofs.YtlfjokcbkopfeaaGreatDoor
end
section
namespace Go.Proofs.YtlfjokcbkopfeaaGreatDoor
open Go Go.RowKit
namespace Sv
abbrev MeetF := Int → Int → List UInt8 → Int → List UInt8 → Bool × Int
section
variable {m : MeetF} {st : PoolT} {s : List Int}
end
section
variable {m : MeetF} {st : PoolT} {s : List Int}
end
end Sv
end Go.Proofs.YtlfjokcbkopfeaaGreatDoor
end
section
namespace Go.Proofs.YtlfjokcbkopfeaaGreatDoor
open Go Go.RowKit
set_option linter.unusedSimpArgs false
set_option linter.unusedVariables false
namespace Sv
def sortZ (l : List Int) : List Int := l.mergeSort fun x y => decide (x ≤ y)
theorem sort_nil : FnV Tryz.prog 126 [.nils] (.tup []) := by
  intro F w vs hF hv
  obtain ⟨v, rfl, h1⟩ := hv.single_inv
  simp only [VR] at h1; subst h1
  refine (Go.Proofs.Any.slices_Sort_int_none Tryz.lays189 none 0 w).mono ?_
  rintro e w' ⟨he, rfl⟩
  exact ⟨_, he, Below.refl _ _, F, fun _ _ e => e, hF, fun _ _ e => .inl e, by simp only [VR]; exact ⟨[], .nil, rfl⟩⟩
theorem compact_nil : FnV Tryz.prog 118 [.nils] .nils := by
  intro F w vs hF hv
  obtain ⟨v, rfl, h1⟩ := hv.single_inv
  simp only [VR] at h1; subst h1
  refine (Tryz.slices_Compact_int_empty none 0 w).mono ?_
  rintro e w' ⟨he, rfl⟩
  exact ⟨_, he, Below.refl _ _, F, fun _ _ e => e, hF, fun _ _ e => .inl e, by simp only [VR]⟩
def setZ (l : List Int) : List Int := Lib.compact (sortZ l)
theorem sortZ_len (l : List Int) : (sortZ l).length = l.length := by simp [sortZ]
theorem setZ_len (l : List Int) : (setZ l).length ≤ l.length := by have := compactI_le (sortZ l); rw [sortZ_len] at this; exact this
def KeepG (P : Program) (f : Nat) (es es' : List AV) (e sz : Nat) : Prop := ∀ (B : Bas) (φ : Phi) (h : AH) (w : World) (b : Nat) (v : Value), Rel B φ h w → getH b h = some (.grow es e sz) → φ.s b = some v →
  Calls P f #[v] w (Ret fun u w' => u = .tuple #[] ∧ Rel B φ (setH b (.grow es' e sz) (scrubH b h)) w')
theorem SO_keep {P : Program} {B : Bas} {F : Cx} {n : Nat} {K : Exit → St → Prop} {x : St} {ops : Array Oper} {rest : List Oper} {f : FuncId} {ar : Array Operand} {ts : Array TypeId} {ty : TypeId} {ps : String} {dst : Option Tmp} {s' : Fr} {af : Array Edge} {g : Option (Nat × Bool)} {b e sz : Nat} {es es' : List AV}
    (hg : guardS ops x.s g = true) (he : Enters P f) (ha : evsA (evA x.s) ar.toList = some [.own b]) (hb : getH b x.h = some (.grow es e sz)) (hf : KeepG P f es es' e sz)
    (hp : putF n dst (.tup []) x.s = some s') (next : SO P n ops rest B F K ⟨s', setH b (.grow es' e sz) (scrubH b x.h), x.nx⟩) : SO P n ops (⟨dst, .call { callee := .value (.func f), args := ar, argTypes := ts }, ty, ps, af, g⟩ :: rest) B F K x := by
  intro φ σ w hx
  have hv := evsA_ok hx.fr.ev ha
  obtain ⟨v, hv0, hv1⟩ := hv.single_inv
  simp only [VR] at hv1
  have hc := hf B φ x.h w b v hx.rel hb hv1.1
  refine WO_call (guardS_ok hx.fr hg) he (by rw [hv0]; exact hc) ?_
  rintro u w' ⟨rfl, hr⟩
  exact next φ _ w' ⟨hx.fr.put hp (by simp only [VR]; exact ⟨[], .nil, rfl⟩), hr, hx.dom, hx.old, hx.new, hx.base⟩
theorem sortI_keep (l : List Int) (hl : l.length ≤ 4611686018427) : KeepG Tryz.prog 126 (l.map (AV.int .i64)) ((sortZ l).map (AV.int .i64)) 3 1 := by
  intro B φ h w b v hr hb hv1
  have hob := hr.obj b _ hb
  obtain ⟨v0, us, q1, q2, q3, q4⟩ := hob
  rw [hv1] at q1; cases q1
  have hu := ints_vals q3
  subst hu
  rw [flat_ints, List.length_map] at q2
  have ht : Turn φ φ b := ⟨fun _ => rfl, fun _ _ => rfl, fun _ _ e => e⟩
  rcases q2.2 with ⟨rfl, hn⟩ | ⟨g, cap, cur, rfl, hg1, hg2, hg3, hg4, hg5, hg6⟩
  · have hl0 : l = [] := List.length_eq_zero_iff.1 hn
    subst hl0
    refine (Go.Proofs.Any.slices_Sort_int_none Tryz.lays189 none 0 w).mono ?_
    rintro e w' ⟨he, rfl⟩
    exact ⟨_, he, rfl, Rel.grown hr hb hv1 ht hv1 rfl ⟨rfl, rfl, rfl, Nat.le_refl _, fun _ _ _ => rfl⟩ (.inl rfl) (fun k hk => by cases hk) (by have := hr.obj b _ hb; simpa [sortZ] using this)⟩
  · have hh : Go.Sort.Holds (Value.int .i64) w g 0 l.toArray := holds_of_blockI hg2 (by simpa using hg6)
    refine (Tryz.slices_Sort_int g 0 cap l w hh (block_lt hg2) (by omega)).mono ?_
    rintro e w' ⟨he, n, os, rfl⟩
    have hgr := grownBy_sortedI (w := w) (g := g) (n := n) (os := os) (sortZ l).toArray
    exact ⟨_, he, rfl, Rel.grown (es' := (sortZ l).map (AV.int .i64)) hr hb hv1 ht hv1 rfl hgr (.inl rfl) (fun k hk => by cases hk; exact Nat.lt_of_lt_of_le (block_lt hg2) hgr.size)
      ⟨_, (sortZ l).map (Value.int .i64), hv1, by
        rw [flat_ints, List.length_map]
        have := ownsRow_sortedI (n := n) (os := os) (base := 0) (ts := sortZ l) (ss := l) (by simp [sortZ]) hg1 hg2 hg3 hg4 (by simpa using hg5)
        rw [show (sortZ l).length = l.length by simp [sortZ]]
        exact this, vals_ints _, cells_ints _⟩⟩
end Sv
end Go.Proofs.YtlfjokcbkopfeaaGreatDoor
end
section
namespace Go.Proofs.YtlfjokcbkopfeaaGreatDoor
open Go Go.RowKit
namespace Sv
attribute [local irreducible] SW SO holds
theorem en_125 : Enters Tryz.prog 125 := enters_of Tryz.func125 (by kernel_rfl) rfl
theorem en_126 : Enters Tryz.prog 126 := enters_of Tryz.func126 (by kernel_rfl) rfl
set_option maxHeartbeats 400000 in
set_option maxRecDepth 100000 in
theorem idsSort_ok (l : List Int) (hl : l.length ≤ 4611686018) :
    FnV Tryz.prog 72 [(nums l)] (nums (setZ l)) := by
  refine FnV_intro [.tmp 2] Tryz.func72 rfl Tryz.ntmps72 rfl rfl (fun B F hF => ?_)
  refine SW_P [] [0] ?_
  refine SW_seq ?_
  refine SW_reg ?_
  refine SO_H 1 0 [] [4] [] hk0 v0 c0 ?_
  refine SO_inl [.tmp 2] (al := [(nums l)]) (s0 := [(4, (nums l))]) (by kernel_rfl) (by exact en_125) (by kernel_rfl) Tryz.func125 rfl Tryz.ntmps125 rfl (by kernel_rfl) (by kernel_rfl) (fun F1 hF1 hle1 => ?_)
  refine SW_P [] [0] ?_
  refine SW_seq ?_
  refine SW_seq ?_
  refine SW_reg ?_
  refine SO_H 1 0 [] [0, 3] [] hk0 v0 c0 ?_
  refine SO_nilrow (G := rowG (nums l)) (sz := 1) (m := l.length) (e := 3) (by kernel_rfl) (by kernel_rfl) (by kernel_rfl) (by kernel_rfl) (fun nq1_1 => ⟨[(0, (nums l)), (3, (nums l)), (4, (.bool (nq1_1)))], by kernel_rfl, fun hnq1_1 => ?_⟩)
  refine SO_nil ?_
  refine SW_cond (q := nq1_1) (by kernel_rfl) (fun c1 => ?_) (fun c1 => ?_)
  · try simp only [Bool.and_eq_true, Bool.or_eq_true, Bool.and_eq_false_iff, Bool.or_eq_false_iff, Bool.not_eq_true', Bool.not_eq_false', decide_eq_true_eq, decide_eq_false_iff_not] at c1
    refine SW_P [] [2] ?_
    refine SW_ret ?_
    refine inlK_mk (.inl rfl) (al := [.nils]) (s' := [(4, (nums l)), (5, .nils)]) (by kernel_rfl) (by kernel_rfl) ?_
    refine SO_HA 2 [] [3] [] hk0 v0 c0 ?_
    refine SW_H [] [3] [] (hk 1 en_126 (sort_nil) <| hk0) v0 c0 ?_
    refine SW_H [] [2] [] (hk 1 en_118 (compact_nil) <| hk0) v0 c0 ?_
    refine SW_ret ?_
    refine RK wR [.nils] ?_
    simp only [pack]
    have h0 : l = [] := List.length_eq_zero_iff.1 (by have := hnq1_1 (by simp_all); simp_all)
    subst h0
    rw [show setZ [] = [] from List.length_eq_zero_iff.1 (Nat.le_zero.1 (setZ_len []))]
    exact (Imp.nil (f := AV.int .i64)).same
  · try simp only [Bool.and_eq_true, Bool.or_eq_true, Bool.and_eq_false_iff, Bool.or_eq_false_iff, Bool.not_eq_true', Bool.not_eq_false', decide_eq_true_eq, decide_eq_false_iff_not] at c1
    refine SW_skip ?_
    refine SW_H [] [2] [] hk0 v0 (cc 2 (p := ((([] : List AV).length + l.length) * 8 ≤ 140737488355328)) (by first | omega | (simp; omega) | (simp; done) | (intros; simp_all; omega) | (intros; simp_all; done)) <| c0) ?_
    refine SW_ret ?_
    refine inlK_mk (.inl rfl) (al := [(.own 1)]) (s' := [(4, (nums l)), (5, (.own 1))]) (by kernel_rfl) (by kernel_rfl) ?_
    refine SO_HA 2 [] [3] [] hk0 v0 c0 ?_
    refine SW_seq ?_
    refine SW_reg ?_
    refine SO_H 1 0 [] [3, 6] [] hk0 v0 c0 ?_
    refine SO_keep (s' := [(3, (.own 1)), (6, (.own 1)), (7, (.tup []))]) (b := 1) (e := 3) (sz := 1) (es := ([] : List AV) ++ ((List.range l.length).map (fun kx => ((.int .i64 (nth l kx)) : AV)))) (es' := ((sortZ l).map (AV.int .i64))) (by kernel_rfl) (by exact en_126) (by kernel_rfl) (by kernel_rfl) ((show KeepG _ _ (([] : List AV) ++ ((List.range l.length).map (fun kx => ((.int .i64 (nth l kx)) : AV)))) _ _ _ from (show l.map (AV.int .i64) = (([] : List AV) ++ ((List.range l.length).map (fun kx => ((.int .i64 (nth l kx)) : AV)))) from by simp [range_all]) ▸ sortI_keep l (by omega))) (by kernel_rfl) ?_
    refine SO_nil ?_
    refine SW_seq ?_
    refine SW_reg ?_
    refine SO_H 1 0 [] [8] [] hk0 v0 c0 ?_
    refine SO_callS [1] (al := [(.own 1)]) (al' := [(.own 0)]) (r := (.own 0)) (r' := (.own 1)) (s' := [(8, junk), (9, (.own 1))]) (H := [(0, (.grow ((sortZ l).map (AV.int .i64)) 3 1))]) (H' := [(0, (.grow ((Lib.compact (sortZ l)).map (AV.int .i64)) 3 1))]) (h2 := [(1, (.grow ((Lib.compact (sortZ l)).map (AV.int .i64)) 3 1))]) (by kernel_rfl) (by exact en_118) (by kernel_rfl) (by kernel_rfl) (by kernel_rfl) (by kernel_rfl) (by kernel_rfl) (compactI_any (sortZ l) (by rw [sortZ_len]; omega)) (by kernel_rfl) (by kernel_rfl) (by kernel_rfl) ?_
    refine SO_HA 2 [] [2] [] hk0 v0 c0 ?_
    refine SW_ret ?_
    refine RK wR [(.row 1 ((Lib.compact (sortZ l)).map (AV.int .i64)).length (fun ix => ((Lib.compact (sortZ l)).map (AV.int .i64)).getD ix junk))] ?_
    simp only [pack]
    exact Same.grown (f := AV.int .i64) (l := setZ l) rfl
end Sv
end Go.Proofs.YtlfjokcbkopfeaaGreatDoor
end
section
namespace Go.Proofs.YtlfjokcbkopfeaaGreatDoor
open Go Go.RowKit
namespace Sv
theorem rise_ext : ∀ {a b : List Int}, RiseI a → RiseI b → (∀ x, x ∈ a ↔ x ∈ b) → a = b
  | [], [], _, _, _ => rfl
  | [], y :: b, _, _, h => by have := (h y).2 (by simp); cases this
  | x :: a, [], _, _, h => by have := (h x).1 (by simp); cases this
  | x :: a, y :: b, ha, hb, h => by
    have e : x = y := by
      rcases List.mem_cons.1 ((h x).1 (by simp)) with e | e
      · exact e
      · rcases List.mem_cons.1 ((h y).2 (by simp)) with e' | e'
        · exact e'.symm
        · have h1 := hb.1 x e
          have h2 := ha.1 y e'
          omega
    subst e
    rw [rise_ext ha.2 hb.2 fun z => ?_]
    constructor
    · intro hz
      rcases List.mem_cons.1 ((h z).1 (by simp [hz])) with e | e
      · subst e; have := ha.1 z hz; omega
      · exact e
    · intro hz
      rcases List.mem_cons.1 ((h z).2 (by simp [hz])) with e | e
      · subst e; have := hb.1 z hz; omega
      · exact e
theorem rise_snoc {x : Int} : ∀ {l : List Int}, RiseI l → (∀ y ∈ l, y < x) → RiseI (l ++ [x])
  | [], _, _ => ⟨by simp, trivial⟩
  | z :: l, h, k => ⟨fun y hy => by
      rcases List.mem_append.1 hy with hy | hy
      · exact h.1 y hy
      · rw [List.mem_singleton] at hy; subst hy; exact k z (by simp), rise_snoc h.2 fun y hy => k y (by simp [hy])⟩
theorem compactUpTo_spec (d : Array Int) (h : ∀ i, i + 1 < d.size → d[i]! ≤ d[i + 1]!) : ∀ m, m ≤ d.size → RiseI (Lib.compactUpTo d m) ∧ (∀ x, x ∈ Lib.compactUpTo d m ↔ ∃ i, i < m ∧ x = d[i]!) ∧ ∀ x ∈ Lib.compactUpTo d m, x ≤ d[m - 1]! := by
  intro m
  induction m with
  | zero => intro _; exact ⟨trivial, fun x => by simp [Lib.compactUpTo], fun x hx => by simp [Lib.compactUpTo] at hx⟩
  | succ m ih =>
    intro hm
    obtain ⟨i1, i2, i3⟩ := ih (by omega)
    have mono : ∀ x ∈ Lib.compactUpTo d m, x ≤ d[m]! := fun x hx => by
      have h1 := i3 x hx
      by_cases h0 : m = 0
      · subst h0; simp [Lib.compactUpTo] at hx
      · have := h (m - 1) (by omega)
        rw [show m - 1 + 1 = m by omega] at this; omega
    rw [Lib.compactUpTo_succ]
    by_cases hk : Lib.keeps d m = true
    · rw [if_pos hk]
      refine ⟨rise_snoc i1 fun y hy => ?_, fun x => ?_, fun x hx => ?_⟩
      · have h1 := mono y hy
        have h2 := i3 y hy
        by_cases h0 : m = 0
        · subst h0; simp [Lib.compactUpTo] at hy
        · have h3 := h (m - 1) (by omega)
          rw [show m - 1 + 1 = m by omega] at h3
          have h4 : d[m]! ≠ d[m - 1]! := by
            simp only [Lib.keeps, decide_eq_true_eq] at hk
            rcases hk with hk | hk
            · exact absurd hk h0
            · exact hk
          omega
      · rw [List.mem_append, i2, List.mem_singleton]
        constructor
        · rintro (⟨i, hi, rfl⟩ | rfl)
          · exact ⟨i, by omega, rfl⟩
          · exact ⟨m, by omega, rfl⟩
        · rintro ⟨i, hi, rfl⟩
          by_cases e : i = m
          · subst e; exact .inr rfl
          · exact .inl ⟨i, by omega, rfl⟩
      · rw [Nat.add_sub_cancel]
        rcases List.mem_append.1 hx with hx | hx
        · exact mono x hx
        · rw [List.mem_singleton] at hx; subst hx; exact Int.le_refl _
    · rw [if_neg hk, List.append_nil]
      have hk' : ¬ m = 0 ∧ d[m]! = d[m - 1]! := by
        simp only [Lib.keeps, decide_eq_true_eq, not_or, ne_eq, Decidable.not_not] at hk
        exact hk
      refine ⟨i1, fun x => ?_, fun x hx => ?_⟩
      · rw [i2]
        constructor
        · rintro ⟨i, hi, rfl⟩
          exact ⟨i, by omega, rfl⟩
        · rintro ⟨i, hi, rfl⟩
          by_cases e : i = m
          · subst e; exact ⟨i - 1, by omega, hk'.2⟩
          · exact ⟨i, by omega, rfl⟩
      · rw [Nat.add_sub_cancel]; exact mono x hx
theorem sortZ_step (l : List Int) (i : Nat) (h : i + 1 < (sortZ l).toArray.size) : (sortZ l).toArray[i]! ≤ (sortZ l).toArray[i + 1]! := by
  have p : (sortZ l).Pairwise fun x y => decide (x ≤ y) = true := List.pairwise_mergeSort (fun a b c h1 h2 => by simp only [decide_eq_true_eq] at *; omega) (fun a b => by simp only [Bool.or_eq_true, decide_eq_true_eq]; omega) l
  have h' : i + 1 < (sortZ l).length := by simpa using h
  have := List.pairwise_iff_getElem.1 p i (i + 1) (by omega) h' (by omega)
  simpa [getElem!_pos, h', show i < (sortZ l).length by omega] using this
theorem setZ_rise (l : List Int) : RiseI (setZ l) := (compactUpTo_spec (sortZ l).toArray (sortZ_step l) (sortZ l).length (by simp)).1
theorem setZ_mem {l : List Int} {x : Int} : x ∈ setZ l ↔ x ∈ l := by
  have h := (compactUpTo_spec (sortZ l).toArray (sortZ_step l) (sortZ l).length (by simp)).2.1 x
  have e : x ∈ setZ l ↔ x ∈ Lib.compactUpTo (sortZ l).toArray (sortZ l).length := Iff.rfl
  rw [e, h]
  have m : x ∈ sortZ l ↔ x ∈ l := by unfold sortZ; exact List.mem_mergeSort
  rw [← m]
  constructor
  · rintro ⟨i, hi, rfl⟩
    simp [getElem!_pos, hi]
  · intro hx
    obtain ⟨i, hi, rfl⟩ := List.getElem_of_mem hx
    exact ⟨i, hi, by simp [getElem!_pos, hi]⟩
theorem setZ_of {l k : List Int} (hk : RiseI k) (h : ∀ x, x ∈ k ↔ x ∈ l) : k = setZ l := rise_ext hk (setZ_rise l) fun x => by rw [h, setZ_mem]
theorem setZ_self {l : List Int} (h : RiseI l) : setZ l = l := (setZ_of h fun _ => Iff.rfl).symm
theorem setZ_congr {l k : List Int} (h : ∀ x, x ∈ k ↔ x ∈ l) : setZ k = setZ l := setZ_of (setZ_rise k) fun x => by rw [setZ_mem, h]
def firstB (x y : List Int) : Bool := decide (y = []) || (!decide (x = []) && decide (nth x 0 ≤ nth y 0))
def mergeZ (p : Bool → Bool → Bool) : Nat → List Int → List Int → List Int
  | 0, _, _ => []
  | n + 1, x, y => if x = [] ∧ y = [] then [] else
    (if p (firstB x y) (firstB y x) then [if firstB y x = true then nth y 0 else nth x 0] else []) ++ mergeZ p n (if firstB x y = true then x.drop 1 else x) (if firstB y x = true then y.drop 1 else y)
theorem merge_rise {q : Bool} {h : Int} {r : List Int} (hr : RiseI r) (hl : ∀ z ∈ r, h < z) : RiseI ((if q = true then [h] else []) ++ r) := by
  cases q
  · exact hr
  · exact ⟨hl, hr⟩
theorem merge_mem {p : Bool → Bool → Bool} {u v : Bool} {h : Int} {x y x1 y1 r : List Int} (hx : ∀ z, z ∈ x ↔ (u = true ∧ z = h) ∨ z ∈ x1) (hy : ∀ z, z ∈ y ↔ (v = true ∧ z = h) ∨ z ∈ y1) (h1 : ∀ z ∈ x1, h < z) (h2 : ∀ z ∈ y1, h < z) (huv : u = true ∨ v = true)
    (hr : ∀ z, z ∈ r ↔ (z ∈ x1 ∨ z ∈ y1) ∧ p (decide (z ∈ x1)) (decide (z ∈ y1)) = true) (z : Int) : z ∈ (if p u v = true then [h] else []) ++ r ↔ (z ∈ x ∨ z ∈ y) ∧ p (decide (z ∈ x)) (decide (z ∈ y)) = true := by
  rw [List.mem_append, hr]
  by_cases e : z = h
  · subst e
    have n1 : ¬ z ∈ x1 := fun q => by have := h1 z q; omega
    have n2 : ¬ z ∈ y1 := fun q => by have := h2 z q; omega
    have e1 : decide (z ∈ x) = u := by have := hx z; cases u <;> simp_all
    have e2 : decide (z ∈ y) = v := by have := hy z; cases v <;> simp_all
    rw [e1, e2]
    have hm : z ∈ x ∨ z ∈ y := by
      rcases huv with q | q
      · exact .inl ((hx z).2 (.inl ⟨q, rfl⟩))
      · exact .inr ((hy z).2 (.inl ⟨q, rfl⟩))
    by_cases q : p u v = true
    · simp [q, hm]
    · simp [q, n1, n2]
  · have e1 : z ∈ x ↔ z ∈ x1 := by rw [hx]; simp [e]
    have e2 : z ∈ y ↔ z ∈ y1 := by rw [hy]; simp [e]
    have n : ¬ z ∈ (if p u v = true then [h] else []) := by split <;> simp [e]
    simp only [e1, e2, n, false_or]
theorem mergeZ_spec {p : Bool → Bool → Bool} : ∀ (n : Nat) (x y : List Int), x.length + y.length < n → RiseI x → RiseI y → RiseI (mergeZ p n x y) ∧ ∀ z, z ∈ mergeZ p n x y ↔ (z ∈ x ∨ z ∈ y) ∧ p (decide (z ∈ x)) (decide (z ∈ y)) = true := by
  intro n
  induction n with
  | zero => intro x y h; omega
  | succ n ih =>
    intro x y h hx hy
    have go : ∀ (u v : Bool) (a : Int) (x1 y1 : List Int), x1.length + y1.length < n → RiseI x1 → RiseI y1 → (∀ z, z ∈ x ↔ (u = true ∧ z = a) ∨ z ∈ x1) → (∀ z, z ∈ y ↔ (v = true ∧ z = a) ∨ z ∈ y1) → (∀ z ∈ x1, a < z) → (∀ z ∈ y1, a < z) → (u = true ∨ v = true) →
        mergeZ p (n + 1) x y = (if p u v = true then [a] else []) ++ mergeZ p n x1 y1 → RiseI (mergeZ p (n + 1) x y) ∧ ∀ z, z ∈ mergeZ p (n + 1) x y ↔ (z ∈ x ∨ z ∈ y) ∧ p (decide (z ∈ x)) (decide (z ∈ y)) = true := by
      intro u v a x1 y1 hl r1 r2 q1 q2 q3 q4 q5 e
      obtain ⟨i1, i2⟩ := ih x1 y1 hl r1 r2
      rw [e]
      refine ⟨merge_rise i1 fun z hz => ?_, merge_mem q1 q2 q3 q4 q5 i2⟩
      rcases ((i2 z).1 hz).1 with k | k
      · exact q3 z k
      · exact q4 z k
    cases x with
    | nil =>
      cases y with
      | nil => exact ⟨trivial, fun z => by simp [mergeZ]⟩
      | cons b y => exact go false true b [] y (by simp at h ⊢; omega) trivial hy.2 (by simp) (by simp) (by simp) hy.1 (.inr rfl) (by simp [mergeZ, firstB, nth])
    | cons a x =>
      cases y with
      | nil => exact go true false a x [] (by simp at h ⊢; omega) hx.2 trivial (by simp) (by simp) hx.1 (by simp) (.inl rfl) (by simp [mergeZ, firstB, nth])
      | cons b y =>
        simp only [List.length_cons] at h
        rcases Int.lt_trichotomy a b with q | q | q
        · exact go true false a x (b :: y) (by simp; omega) hx.2 hy (by simp) (by simp) hx.1 (fun z hz => by
            rcases List.mem_cons.1 hz with rfl | hz
            · exact q
            · have := hy.1 z hz; omega) (.inl rfl) (by simp [mergeZ, firstB, nth, show a ≤ b by omega, show ¬ b ≤ a by omega])
        · subst q
          exact go true true a x y (by omega) hx.2 hy.2 (by simp) (by simp) hx.1 hy.1 (.inl rfl) (by simp [mergeZ, firstB, nth])
        · exact go false true b (a :: x) y (by simp; omega) hx hy.2 (by simp) (by simp) (fun z hz => by
            rcases List.mem_cons.1 hz with rfl | hz
            · exact q
            · have := hx.1 z hz; omega) hy.1 (.inr rfl) (by simp [mergeZ, firstB, nth, show ¬ a ≤ b by omega, show b ≤ a by omega])
def mergeS (p : Bool → Bool → Bool) (a b : List Int) : List Int := mergeZ p ((setZ a).length + (setZ b).length + 1) (setZ a) (setZ b)
theorem mergeS_mem {p : Bool → Bool → Bool} {a b : List Int} {z : Int} : z ∈ mergeS p a b ↔ (z ∈ a ∨ z ∈ b) ∧ p (decide (z ∈ a)) (decide (z ∈ b)) = true := by
  have := (mergeZ_spec (p := p) _ (setZ a) (setZ b) (Nat.lt_succ_self _) (setZ_rise a) (setZ_rise b)).2 z
  simp only [setZ_mem] at this
  exact this
theorem mergeS_rise {p : Bool → Bool → Bool} {a b : List Int} : RiseI (mergeS p a b) := (mergeZ_spec _ (setZ a) (setZ b) (Nat.lt_succ_self _) (setZ_rise a) (setZ_rise b)).1
def minusZ (a b : List Int) : List Int := setZ (a.filter fun z => !decide (z ∈ b))
def unionZ (a b : List Int) : List Int := setZ (a ++ b)
theorem minusS (a b : List Int) : mergeS (fun _ v => !v) a b = minusZ a b := setZ_of mergeS_rise fun z => by rw [mergeS_mem, List.mem_filter]; simp only [Bool.not_eq_true', decide_eq_false_iff_not]; exact ⟨fun h => ⟨h.1.resolve_right h.2, h.2⟩, fun h => ⟨.inl h.1, h.2⟩⟩
theorem unionS (a b : List Int) : mergeS (fun _ _ => true) a b = unionZ a b := setZ_of mergeS_rise fun z => by rw [mergeS_mem, List.mem_append]; simp
theorem minusZ_mem {a b : List Int} {z : Int} : z ∈ minusZ a b ↔ z ∈ a ∧ ¬ z ∈ b := by unfold minusZ; rw [setZ_mem, List.mem_filter]; simp
theorem unionZ_mem {a b : List Int} {z : Int} : z ∈ unionZ a b ↔ z ∈ a ∨ z ∈ b := by unfold unionZ; rw [setZ_mem, List.mem_append]
theorem minusZ_rise (a b : List Int) : RiseI (minusZ a b) := setZ_rise _
theorem unionZ_rise (a b : List Int) : RiseI (unionZ a b) := setZ_rise _
end Sv
end Go.Proofs.YtlfjokcbkopfeaaGreatDoor
end
section
namespace Go.Proofs.YtlfjokcbkopfeaaGreatDoor
open Go Go.RowKit
namespace Sv
attribute [local irreducible] SW SO holds
theorem en_69 : Enters Tryz.prog 69 := enters_of Tryz.func69 (by kernel_rfl) rfl
theorem en_72 : Enters Tryz.prog 72 := enters_of Tryz.func72 (by kernel_rfl) rfl
theorem en_24 : Enters Tryz.prog 24 := enters_of Tryz.func24 (by kernel_rfl) rfl
theorem en_73 : Enters Tryz.prog 73 := enters_of Tryz.func73 (by kernel_rfl) rfl
theorem en_71 : Enters Tryz.prog 71 := enters_of Tryz.func71 (by kernel_rfl) rfl
theorem en_127 : Enters Tryz.prog 127 := enters_of Tryz.func127 (by kernel_rfl) rfl
theorem first_txt (x y : List Int) : (decide ((y.length : Int) = 0) || (decide (0 < (x.length : Int)) && decide (nth x 0 ≤ nth y 0))) = firstB x y := by
  unfold firstB
  cases x <;> cases y <;> simp
  all_goals omega
theorem first_len {x y : List Int} (h : ¬(x = [] ∧ y = [])) (k : firstB x y = true) : 1 ≤ x.length := by
  cases x <;> cases y <;> simp_all [firstB]
theorem first_or {x y : List Int} (h : ¬(x = [] ∧ y = [])) (k : firstB x y = false) : firstB y x = true := by
  cases x <;> cases y <;> simp_all [firstB]; omega
theorem merge_next {p : Bool → Bool → Bool} {g : Nat} {x y : List Int} {u v : Bool} (hg : 1 ≤ g) (h : ¬(x = [] ∧ y = [])) (hu : firstB x y = u) (hv : firstB y x = v) :
    mergeZ p g x y = (if p u v = true then [if v = true then nth y 0 else nth x 0] else []) ++ mergeZ p (g - 1) (if u = true then x.drop 1 else x) (if v = true then y.drop 1 else y) := by
  obtain ⟨n, rfl⟩ : ∃ n, g = n + 1 := ⟨g - 1, by omega⟩
  rw [mergeZ, if_neg h, hu, hv]; rfl
theorem merge_nil (p : Bool → Bool → Bool) (g : Nat) : mergeZ p g [] [] = [] := by cases g <;> rfl
theorem drop_imp {x : List Int} {n : Nat} (h : 1 ≤ x.length ∧ n = x.length - 1) : Imp (.row 1 n (fun kx => .int .i64 (nth x (1 + kx)))) (nums (x.drop 1)) := by
  obtain ⟨h1, rfl⟩ := h
  have e : x.length - 1 = (x.drop 1).length := by simp
  rw [e]
  exact Imp.row fun i hi => Imp.of_eq (by simp [nth, List.getElem?_drop, Nat.add_comm])
set_option maxHeartbeats 400000 in
set_option maxRecDepth 100000 in
theorem minusC_ok (a b : Bool) :
    FnV Tryz.prog 71 [(.bool (a)), (.bool (b))] (.bool (!b)) := by
  refine FnV_intro [.tmp 4] Tryz.func71 rfl Tryz.ntmps71 rfl rfl (fun B F hF => ?_)
  refine SW_P [] [1] ?_
  refine SW_P [] [4] ?_
  refine SW_ret ?_
  refine RK wR [(.bool (!b))] ?_
  exact Same.of_eq (by first | rfl | (simp only [pack]; simp_all))
set_option maxHeartbeats 400000 in
set_option maxRecDepth 100000 in
theorem unionC_ok (a b : Bool) :
    FnV Tryz.prog 127 [(.bool (a)), (.bool (b))] (.bool (true)) := by
  refine FnV_intro [.tmp 4] Tryz.func127 rfl Tryz.ntmps127 rfl rfl (fun B F hF => ?_)
  refine SW_P [] [] ?_
  refine SW_P [] [4] ?_
  refine SW_ret ?_
  refine RK wR [(.bool (true))] ?_
  exact Same.of_eq (by first | rfl | (simp only [pack]; simp_all))
set_option maxHeartbeats 1000000 in
set_option maxRecDepth 100000 in
theorem merged_ok (a b : List Int) (q : AV) (p : Bool → Bool → Bool) (ha : a.length ≤ 4194304) (hb : b.length ≤ 4194304) (hq : ∀ u v, FunV Tryz.prog q [.bool u, .bool v] (.bool (p u v))) :
    FnV Tryz.prog 69 [(nums a), (nums b), (.clo q)] (nums (mergeS p a b)) := by
  have h1 := setZ_len a
  have h2 := setZ_len b
  refine FnV_intro [.tmp 6] Tryz.func69 rfl Tryz.ntmps69 rfl rfl (fun B F hF => ?_)
  refine SW_P [] [0, 1, 2] ?_
  refine SW_H [] [0, 1, 2] [] (hk 1 en_72 (idsSort_ok a (by omega)) <| hk 3 en_72 (idsSort_ok b (by omega)) <| hk0) v0 c0 ?_
  refine SW_P [] [0, 1, 2, 7] ?_
  refine SW_seq ?_
  refine SW_block ?_
  refine SW_thaw 3 1 7 (y := ⟨[(0, (nums (setZ a))), (1, (nums (setZ b))), (2, (.clo q)), (7, (.own 0))], [(0, (.grow [] 3 1))], 1⟩) (by kernel_rfl) (by kernel_rfl) ?_
  refine SW_L (fun g y => ∃ (fu : Nat) (x k zs : List Int), x.length ≤ (setZ a).length ∧ k.length ≤ (setZ b).length ∧ x.length + k.length < fu ∧ zs.length + (x.length + k.length) ≤ (setZ a).length + (setZ b).length ∧ mergeZ p ((setZ a).length + (setZ b).length + 1) (setZ a) (setZ b) = zs ++ mergeZ p fu x k ∧ y = ⟨[(0, (nums x)), (1, (nums k)), (2, (.clo q)), (7, (.own 0))], [(0, (.grow (zs.map (AV.int .i64)) 3 1))], 1⟩ ∧ g = fu) [0, 1, 2, 7] 1 _ (by omega) ⟨(setZ a).length + (setZ b).length + 1, (setZ a), (setZ b), [], (by omega), (by omega), (by omega), (by simp), (by rfl), (by kernel_rfl), rfl⟩ ?_
  rintro g1 y1 ⟨fu, x, k, zs, f1_1, f1_2, f1_3, f1_4, f1_5, rfl, rfl⟩
  refine SW_seq ?_
  obtain ⟨b1, hb1⟩ : ∃ b, b = (decide (0 < (x.length : Int))) := ⟨_, rfl⟩
  refine SW_H (CS := [(5, ((!b1) = true → (!b1) = true)), (6, ((!b1) = true → (!b1) = true)), (7, (b1 = false → (!b1) = true))]) [19, 20, 21] [0, 1, 2, 7, 22] [] hk0 (vk 4 18 (a := .bool (decide (0 < (x.length : Int)))) (b := .bool b1) (Imp.of_eq (by rw [hb1])) <| v0) (by refine cc _ ?_ <| cc _ ?_ <| cc _ ?_ c0 <;> first | omega | (simp; omega) | (simp; done) | (intros; simp_all; omega) | (intros; simp_all; done)) ?_
  refine SW_cond (q := b1 || (decide (0 < (k.length : Int)))) (by kernel_rfl) (fun c1 => ?_) (fun c1 => ?_)
  · skip
    subst hb1
    try simp only [Bool.and_eq_true, Bool.or_eq_true, Bool.and_eq_false_iff, Bool.or_eq_false_iff, Bool.not_eq_true', Bool.not_eq_false', decide_eq_true_eq, decide_eq_false_iff_not] at c1
    have hne : ¬(x = [] ∧ k = []) := by rintro ⟨rfl, rfl⟩; simp at c1
    refine SW_skip ?_
    refine SW_block ?_
    have qh1 : ((((!(decide ((k.length : Int) = 0))) && (decide (0 < (x.length : Int)))) = true → (((!(decide ((k.length : Int) = 0))) && (decide (0 < (x.length : Int)))) = true) ∧ (0 ≤ (0 : Int) ∧ 0 < k.length))) := by
      intro hq; simp only [Bool.and_eq_true, Bool.not_eq_true', decide_eq_false_iff_not, decide_eq_true_eq] at hq ⊢; omega
    refine SW_D [27, 28, 29, 30, 31, 32, 33, 34, 35, 36, 37, 38] [0, 1, 2, 7, 8] [] hk0 (vk 17 39 (a := (.bool ((decide ((k.length : Int) = 0)) || ((decide (0 < (x.length : Int))) && (decide ((nth x 0) ≤ (nth k 0))))))) (b := (.bool (firstB x k))) (Imp.of_eq (congrArg AV.bool (first_txt x k))) <| v0) (cc 5 (p := ((!(decide ((k.length : Int) = 0))) = true → (!(decide ((k.length : Int) = 0))) = true)) (by first | omega | (simp; omega) | (simp; done) | (intros; simp_all; omega) | (intros; simp_all; done)) <| cc 6 (p := ((!(decide ((k.length : Int) = 0))) = true → (!(decide ((k.length : Int) = 0))) = true)) (by first | omega | (simp; omega) | (simp; done) | (intros; simp_all; omega) | (intros; simp_all; done)) <| cc 7 (p := ((!(decide ((k.length : Int) = 0))) = true → (!(decide ((k.length : Int) = 0))) = true)) (by first | omega | (simp; omega) | (simp; done) | (intros; simp_all; omega) | (intros; simp_all; done)) <| cc 9 (p := (((!(decide ((k.length : Int) = 0))) && (decide (0 < (x.length : Int)))) = true → (((!(decide ((k.length : Int) = 0))) && (decide (0 < (x.length : Int)))) = true) ∧ (0 ≤ (0 : Int) ∧ 0 < x.length))) (by first | omega | (simp; omega) | (simp; done) | (intros; simp_all; omega) | (intros; simp_all; done)) <| cc 10 (p := (((!(decide ((k.length : Int) = 0))) && (decide (0 < (x.length : Int)))) = true → ((!(decide ((k.length : Int) = 0))) && (decide (0 < (x.length : Int)))) = true)) (by first | omega | (simp; omega) | (simp; done) | (intros; simp_all; omega) | (intros; simp_all; done)) <| cc 12 (p := (((!(decide ((k.length : Int) = 0))) && (decide (0 < (x.length : Int)))) = true → (((!(decide ((k.length : Int) = 0))) && (decide (0 < (x.length : Int)))) = true) ∧ (0 ≤ (0 : Int) ∧ 0 < k.length))) qh1 <| cc 13 (p := (((!(decide ((k.length : Int) = 0))) && (decide (0 < (x.length : Int)))) = true → ((!(decide ((k.length : Int) = 0))) && (decide (0 < (x.length : Int)))) = true)) (by first | omega | (simp; omega) | (simp; done) | (intros; simp_all; omega) | (intros; simp_all; done)) <| cc 14 (p := (((!(decide ((k.length : Int) = 0))) && (decide (0 < (x.length : Int)))) = true → ((!(decide ((k.length : Int) = 0))) && (decide (0 < (x.length : Int)))) = true ∧ ((!(decide ((k.length : Int) = 0))) && (decide (0 < (x.length : Int)))) = true)) (by first | omega | (simp; omega) | (simp; done) | (intros; simp_all; omega) | (intros; simp_all; done)) <| cc 15 (p := ((!(decide ((k.length : Int) = 0))) = true → ((!(decide ((k.length : Int) = 0))) = true) ∧ ((decide (0 < (x.length : Int))) = true → ((!(decide ((k.length : Int) = 0))) && (decide (0 < (x.length : Int)))) = true))) (by first | omega | (simp; omega) | (simp; done) | (intros; simp_all; omega) | (intros; simp_all; done)) <| cc 16 (p := ((decide ((k.length : Int) = 0)) = false → (!(decide ((k.length : Int) = 0))) = true)) (by first | omega | (simp; omega) | (simp; done) | (intros; simp_all; omega) | (intros; simp_all; done)) <| c0) ?_
    have qh2 : ((((!(decide ((x.length : Int) = 0))) && (decide (0 < (k.length : Int)))) = true → (((!(decide ((x.length : Int) = 0))) && (decide (0 < (k.length : Int)))) = true) ∧ (0 ≤ (0 : Int) ∧ 0 < x.length))) := by
      intro hq; simp only [Bool.and_eq_true, Bool.not_eq_true', decide_eq_false_iff_not, decide_eq_true_eq] at hq ⊢; omega
    refine SW_D [44, 45, 46, 47, 48, 49, 50, 51, 52, 53, 54, 55] [0, 1, 2, 7, 8, 9] [] hk0 (vk 17 56 (a := (.bool ((decide ((x.length : Int) = 0)) || ((decide (0 < (k.length : Int))) && (decide ((nth k 0) ≤ (nth x 0))))))) (b := (.bool (firstB k x))) (Imp.of_eq (congrArg AV.bool (first_txt k x))) <| v0) (cc 5 (p := ((!(decide ((x.length : Int) = 0))) = true → (!(decide ((x.length : Int) = 0))) = true)) (by first | omega | (simp; omega) | (simp; done) | (intros; simp_all; omega) | (intros; simp_all; done)) <| cc 6 (p := ((!(decide ((x.length : Int) = 0))) = true → (!(decide ((x.length : Int) = 0))) = true)) (by first | omega | (simp; omega) | (simp; done) | (intros; simp_all; omega) | (intros; simp_all; done)) <| cc 7 (p := ((!(decide ((x.length : Int) = 0))) = true → (!(decide ((x.length : Int) = 0))) = true)) (by first | omega | (simp; omega) | (simp; done) | (intros; simp_all; omega) | (intros; simp_all; done)) <| cc 9 (p := (((!(decide ((x.length : Int) = 0))) && (decide (0 < (k.length : Int)))) = true → (((!(decide ((x.length : Int) = 0))) && (decide (0 < (k.length : Int)))) = true) ∧ (0 ≤ (0 : Int) ∧ 0 < k.length))) (by first | omega | (simp; omega) | (simp; done) | (intros; simp_all; omega) | (intros; simp_all; done)) <| cc 10 (p := (((!(decide ((x.length : Int) = 0))) && (decide (0 < (k.length : Int)))) = true → ((!(decide ((x.length : Int) = 0))) && (decide (0 < (k.length : Int)))) = true)) (by first | omega | (simp; omega) | (simp; done) | (intros; simp_all; omega) | (intros; simp_all; done)) <| cc 12 (p := (((!(decide ((x.length : Int) = 0))) && (decide (0 < (k.length : Int)))) = true → (((!(decide ((x.length : Int) = 0))) && (decide (0 < (k.length : Int)))) = true) ∧ (0 ≤ (0 : Int) ∧ 0 < x.length))) qh2 <| cc 13 (p := (((!(decide ((x.length : Int) = 0))) && (decide (0 < (k.length : Int)))) = true → ((!(decide ((x.length : Int) = 0))) && (decide (0 < (k.length : Int)))) = true)) (by first | omega | (simp; omega) | (simp; done) | (intros; simp_all; omega) | (intros; simp_all; done)) <| cc 14 (p := (((!(decide ((x.length : Int) = 0))) && (decide (0 < (k.length : Int)))) = true → ((!(decide ((x.length : Int) = 0))) && (decide (0 < (k.length : Int)))) = true ∧ ((!(decide ((x.length : Int) = 0))) && (decide (0 < (k.length : Int)))) = true)) (by first | omega | (simp; omega) | (simp; done) | (intros; simp_all; omega) | (intros; simp_all; done)) <| cc 15 (p := ((!(decide ((x.length : Int) = 0))) = true → ((!(decide ((x.length : Int) = 0))) = true) ∧ ((decide (0 < (k.length : Int))) = true → ((!(decide ((x.length : Int) = 0))) && (decide (0 < (k.length : Int)))) = true))) (by first | omega | (simp; omega) | (simp; done) | (intros; simp_all; omega) | (intros; simp_all; done)) <| cc 16 (p := ((decide ((x.length : Int) = 0)) = false → (!(decide ((x.length : Int) = 0))) = true)) (by first | omega | (simp; omega) | (simp; done) | (intros; simp_all; omega) | (intros; simp_all; done)) <| c0) ?_
    refine SW_P [] [0, 1, 2, 7, 8, 9, 10] ?_
    refine SW_seq ?_
    refine SW_P [] [0, 1, 2, 7, 8, 9, 10, 57] ?_
    refine SW_cond (q := firstB x k) (by kernel_rfl) (fun c2 => ?_) (fun c2 => ?_)
    · try simp only [Bool.and_eq_true, Bool.or_eq_true, Bool.and_eq_false_iff, Bool.or_eq_false_iff, Bool.not_eq_true', Bool.not_eq_false', decide_eq_true_eq, decide_eq_false_iff_not] at c2
      have h1x := first_len hne c2
      refine SW_DA (CS := [(1, (0 ≤ (0 : Int) ∧ 0 < x.length)), (4, (0 ≤ (1 : Int) ∧ (1 : Int) ≤ (x.length : Int) ∧ (x.length : Int) ≤ (x.length : Int)))]) [] [0, 1, 2, 7, 8, 9, 10] [] hk0 (vk 6 62 (a := (.row 1 (x.length - 1) (fun kx => (.int .i64 (nth x (1 + kx)))))) (b := (nums (x.drop 1))) (drop_imp (by omega)) <| v0) (by refine cc _ ?_ <| cc _ ?_ c0 <;> first | omega | (simp; omega) | (simp; done) | (intros; simp_all; omega) | (intros; simp_all; done)) ?_
      refine SW_seq ?_
      refine SW_P [] [0, 1, 2, 7, 8, 9, 10, 63] ?_
      refine SW_cond (q := firstB k x) (by kernel_rfl) (fun c3 => ?_) (fun c3 => ?_)
      · try simp only [Bool.and_eq_true, Bool.or_eq_true, Bool.and_eq_false_iff, Bool.or_eq_false_iff, Bool.not_eq_true', Bool.not_eq_false', decide_eq_true_eq, decide_eq_false_iff_not] at c3
        have h1y := first_len (fun q => hne ⟨q.2, q.1⟩) c3
        refine SW_DA (CS := [(1, (0 ≤ (0 : Int) ∧ 0 < k.length)), (4, (0 ≤ (1 : Int) ∧ (1 : Int) ≤ (k.length : Int) ∧ (k.length : Int) ≤ (k.length : Int)))]) [] [0, 1, 2, 7, 8, 9, 10] [] hk0 (vk 6 68 (a := (.row 1 (k.length - 1) (fun kx => (.int .i64 (nth k (1 + kx)))))) (b := (nums (k.drop 1))) (drop_imp (by omega)) <| v0) (by refine cc _ ?_ <| cc _ ?_ c0 <;> first | omega | (simp; omega) | (simp; done) | (intros; simp_all; omega) | (intros; simp_all; done)) ?_
        refine SW_seq ?_
        refine SW_reg ?_
        refine SO_H 3 0 [] [0, 1, 2, 7, 10, 69, 70, 71] [] hk0 v0 c0 ?_
        refine SO_callA (s' := [(0, (nums (x.drop 1))), (1, (nums (k.drop 1))), (2, (.clo q)), (7, (.own 0)), (10, (.int .i64 (nth k 0))), (69, (.clo q)), (70, (.bool (firstB x k))), (71, (.bool (firstB k x))), (72, (.bool (p ((firstB x k)) ((firstB k x)))))]) (a := (.clo q)) (al := [(.bool (firstB x k)), (.bool (firstB k x))]) (r := (.bool (p ((firstB x k)) ((firstB k x))))) (by kernel_rfl) (by kernel_rfl) (by kernel_rfl) (by kernel_rfl) (by kernel_rfl) ((hq _ _).clo) (by kernel_rfl) ?_
        refine SO_nil ?_
        refine SW_cond (q := p ((firstB x k)) ((firstB k x))) (by kernel_rfl) (fun c4 => ?_) (fun c4 => ?_)
        · try simp only [Bool.and_eq_true, Bool.or_eq_true, Bool.and_eq_false_iff, Bool.or_eq_false_iff, Bool.not_eq_true', Bool.not_eq_false', decide_eq_true_eq, decide_eq_false_iff_not] at c4
          refine SW_reg ?_
          refine SO_HA 0 [] [0, 1, 2, 7] [] hk0 v0 (cc 3 (p := (((zs.map (AV.int .i64)).length + 1) * 8 ≤ 140737488355328)) (by first | omega | (simp; omega) | (simp; done) | (intros; simp_all; omega) | (intros; simp_all; done)) <| c0) ?_
          refine ⟨by kernel_rfl, _, ?_, g1 - 1, (x.drop 1), (k.drop 1), zs ++ [nth k 0], ?_, ?_, ?_, ?_, ?_, (Eq.trans (b := (⟨[(0, (nums (x.drop 1))), (1, (nums (k.drop 1))), (2, (.clo q)), (7, (.own 0))], [(0, (.grow ((zs.map (AV.int .i64)) ++ ([(.int .i64 (nth k 0))] : List AV)) 3 1))], 1⟩ : St)) (by kernel_rfl) (by rw [List.map_append] <;> kernel_rfl)), rfl⟩
          · omega
          · (try rw [List.length_drop]); omega
          · (try rw [List.length_drop]); omega
          · (repeat rw [List.length_drop]); omega
          · (try rw [List.length_append, List.length_singleton]); (repeat rw [List.length_drop]); omega
          · rw [c2, c3] at c4
            rw [f1_5, merge_next (by omega) hne c2 c3]
            simp [c4]
        · try simp only [Bool.and_eq_true, Bool.or_eq_true, Bool.and_eq_false_iff, Bool.or_eq_false_iff, Bool.not_eq_true', Bool.not_eq_false', decide_eq_true_eq, decide_eq_false_iff_not] at c4
          refine SW_skip ?_
          refine ⟨by kernel_rfl, _, ?_, g1 - 1, (x.drop 1), (k.drop 1), zs, ?_, ?_, ?_, ?_, ?_, (by kernel_rfl), rfl⟩
          · omega
          · (try rw [List.length_drop]); omega
          · (try rw [List.length_drop]); omega
          · (repeat rw [List.length_drop]); omega
          · (try rw [List.length_append, List.length_singleton]); (repeat rw [List.length_drop]); omega
          · rw [c2, c3] at c4
            rw [f1_5, merge_next (by omega) hne c2 c3]
            simp [c4]
      · try simp only [Bool.and_eq_true, Bool.or_eq_true, Bool.and_eq_false_iff, Bool.or_eq_false_iff, Bool.not_eq_true', Bool.not_eq_false', decide_eq_true_eq, decide_eq_false_iff_not] at c3
        refine SW_skip ?_
        refine SW_seq ?_
        refine SW_reg ?_
        refine SO_H 3 0 [] [0, 1, 2, 7, 10, 69, 70, 71] [] hk0 v0 c0 ?_
        refine SO_callA (s' := [(0, (nums (x.drop 1))), (1, (nums k)), (2, (.clo q)), (7, (.own 0)), (10, (.int .i64 (nth x 0))), (69, (.clo q)), (70, (.bool (firstB x k))), (71, (.bool (firstB k x))), (72, (.bool (p ((firstB x k)) ((firstB k x)))))]) (a := (.clo q)) (al := [(.bool (firstB x k)), (.bool (firstB k x))]) (r := (.bool (p ((firstB x k)) ((firstB k x))))) (by kernel_rfl) (by kernel_rfl) (by kernel_rfl) (by kernel_rfl) (by kernel_rfl) ((hq _ _).clo) (by kernel_rfl) ?_
        refine SO_nil ?_
        refine SW_cond (q := p ((firstB x k)) ((firstB k x))) (by kernel_rfl) (fun c5 => ?_) (fun c5 => ?_)
        · try simp only [Bool.and_eq_true, Bool.or_eq_true, Bool.and_eq_false_iff, Bool.or_eq_false_iff, Bool.not_eq_true', Bool.not_eq_false', decide_eq_true_eq, decide_eq_false_iff_not] at c5
          refine SW_reg ?_
          refine SO_HA 0 [] [0, 1, 2, 7] [] hk0 v0 (cc 3 (p := (((zs.map (AV.int .i64)).length + 1) * 8 ≤ 140737488355328)) (by first | omega | (simp; omega) | (simp; done) | (intros; simp_all; omega) | (intros; simp_all; done)) <| c0) ?_
          refine ⟨by kernel_rfl, _, ?_, g1 - 1, (x.drop 1), k, zs ++ [nth x 0], ?_, ?_, ?_, ?_, ?_, (Eq.trans (b := (⟨[(0, (nums (x.drop 1))), (1, (nums k)), (2, (.clo q)), (7, (.own 0))], [(0, (.grow ((zs.map (AV.int .i64)) ++ ([(.int .i64 (nth x 0))] : List AV)) 3 1))], 1⟩ : St)) (by kernel_rfl) (by rw [List.map_append] <;> kernel_rfl)), rfl⟩
          · omega
          · (try rw [List.length_drop]); omega
          · (try rw [List.length_drop]); omega
          · (repeat rw [List.length_drop]); omega
          · (try rw [List.length_append, List.length_singleton]); (repeat rw [List.length_drop]); omega
          · rw [c2, c3] at c5
            rw [f1_5, merge_next (by omega) hne c2 c3]
            simp [c5]
        · try simp only [Bool.and_eq_true, Bool.or_eq_true, Bool.and_eq_false_iff, Bool.or_eq_false_iff, Bool.not_eq_true', Bool.not_eq_false', decide_eq_true_eq, decide_eq_false_iff_not] at c5
          refine SW_skip ?_
          refine ⟨by kernel_rfl, _, ?_, g1 - 1, (x.drop 1), k, zs, ?_, ?_, ?_, ?_, ?_, (by kernel_rfl), rfl⟩
          · omega
          · (try rw [List.length_drop]); omega
          · (try rw [List.length_drop]); omega
          · (repeat rw [List.length_drop]); omega
          · (try rw [List.length_append, List.length_singleton]); (repeat rw [List.length_drop]); omega
          · rw [c2, c3] at c5
            rw [f1_5, merge_next (by omega) hne c2 c3]
            simp [c5]
    · try simp only [Bool.and_eq_true, Bool.or_eq_true, Bool.and_eq_false_iff, Bool.or_eq_false_iff, Bool.not_eq_true', Bool.not_eq_false', decide_eq_true_eq, decide_eq_false_iff_not] at c2
      refine SW_skip ?_
      refine SW_seq ?_
      refine SW_P [] [0, 1, 2, 7, 8, 9, 10, 63] ?_
      refine SW_cond (q := firstB k x) (by kernel_rfl) (fun c6 => ?_) (fun c6 => ?_)
      · try simp only [Bool.and_eq_true, Bool.or_eq_true, Bool.and_eq_false_iff, Bool.or_eq_false_iff, Bool.not_eq_true', Bool.not_eq_false', decide_eq_true_eq, decide_eq_false_iff_not] at c6
        have h1y := first_len (fun q => hne ⟨q.2, q.1⟩) c6
        refine SW_DA (CS := [(1, (0 ≤ (0 : Int) ∧ 0 < k.length)), (4, (0 ≤ (1 : Int) ∧ (1 : Int) ≤ (k.length : Int) ∧ (k.length : Int) ≤ (k.length : Int)))]) [] [0, 1, 2, 7, 8, 9, 10] [] hk0 (vk 6 68 (a := (.row 1 (k.length - 1) (fun kx => (.int .i64 (nth k (1 + kx)))))) (b := (nums (k.drop 1))) (drop_imp (by omega)) <| v0) (by refine cc _ ?_ <| cc _ ?_ c0 <;> first | omega | (simp; omega) | (simp; done) | (intros; simp_all; omega) | (intros; simp_all; done)) ?_
        refine SW_seq ?_
        refine SW_reg ?_
        refine SO_H 3 0 [] [0, 1, 2, 7, 10, 69, 70, 71] [] hk0 v0 c0 ?_
        refine SO_callA (s' := [(0, (nums x)), (1, (nums (k.drop 1))), (2, (.clo q)), (7, (.own 0)), (10, (.int .i64 (nth k 0))), (69, (.clo q)), (70, (.bool (firstB x k))), (71, (.bool (firstB k x))), (72, (.bool (p ((firstB x k)) ((firstB k x)))))]) (a := (.clo q)) (al := [(.bool (firstB x k)), (.bool (firstB k x))]) (r := (.bool (p ((firstB x k)) ((firstB k x))))) (by kernel_rfl) (by kernel_rfl) (by kernel_rfl) (by kernel_rfl) (by kernel_rfl) ((hq _ _).clo) (by kernel_rfl) ?_
        refine SO_nil ?_
        refine SW_cond (q := p ((firstB x k)) ((firstB k x))) (by kernel_rfl) (fun c7 => ?_) (fun c7 => ?_)
        · try simp only [Bool.and_eq_true, Bool.or_eq_true, Bool.and_eq_false_iff, Bool.or_eq_false_iff, Bool.not_eq_true', Bool.not_eq_false', decide_eq_true_eq, decide_eq_false_iff_not] at c7
          refine SW_reg ?_
          refine SO_HA 0 [] [0, 1, 2, 7] [] hk0 v0 (cc 3 (p := (((zs.map (AV.int .i64)).length + 1) * 8 ≤ 140737488355328)) (by first | omega | (simp; omega) | (simp; done) | (intros; simp_all; omega) | (intros; simp_all; done)) <| c0) ?_
          refine ⟨by kernel_rfl, _, ?_, g1 - 1, x, (k.drop 1), zs ++ [nth k 0], ?_, ?_, ?_, ?_, ?_, (Eq.trans (b := (⟨[(0, (nums x)), (1, (nums (k.drop 1))), (2, (.clo q)), (7, (.own 0))], [(0, (.grow ((zs.map (AV.int .i64)) ++ ([(.int .i64 (nth k 0))] : List AV)) 3 1))], 1⟩ : St)) (by kernel_rfl) (by rw [List.map_append] <;> kernel_rfl)), rfl⟩
          · omega
          · (try rw [List.length_drop]); omega
          · (try rw [List.length_drop]); omega
          · (repeat rw [List.length_drop]); omega
          · (try rw [List.length_append, List.length_singleton]); (repeat rw [List.length_drop]); omega
          · rw [c2, c6] at c7
            rw [f1_5, merge_next (by omega) hne c2 c6]
            simp [c7]
        · try simp only [Bool.and_eq_true, Bool.or_eq_true, Bool.and_eq_false_iff, Bool.or_eq_false_iff, Bool.not_eq_true', Bool.not_eq_false', decide_eq_true_eq, decide_eq_false_iff_not] at c7
          refine SW_skip ?_
          refine ⟨by kernel_rfl, _, ?_, g1 - 1, x, (k.drop 1), zs, ?_, ?_, ?_, ?_, ?_, (by kernel_rfl), rfl⟩
          · omega
          · (try rw [List.length_drop]); omega
          · (try rw [List.length_drop]); omega
          · (repeat rw [List.length_drop]); omega
          · (try rw [List.length_append, List.length_singleton]); (repeat rw [List.length_drop]); omega
          · rw [c2, c6] at c7
            rw [f1_5, merge_next (by omega) hne c2 c6]
            simp [c7]
      · try simp only [Bool.and_eq_true, Bool.or_eq_true, Bool.and_eq_false_iff, Bool.or_eq_false_iff, Bool.not_eq_true', Bool.not_eq_false', decide_eq_true_eq, decide_eq_false_iff_not] at c6
        have := first_or hne c2
        rw [c6] at this
        cases this
  · skip
    subst hb1
    try simp only [Bool.and_eq_true, Bool.or_eq_true, Bool.and_eq_false_iff, Bool.or_eq_false_iff, Bool.not_eq_true', Bool.not_eq_false', decide_eq_true_eq, decide_eq_false_iff_not] at c1
    refine SW_exit ?_
    refine SW_P [] [6] ?_
    refine SW_ret ?_
    refine RK wR [(.row 1 (zs.map (AV.int .i64)).length (fun ix => (zs.map (AV.int .i64)).getD ix junk))] ?_
    simp only [pack]
    exact Same.grown (f := AV.int .i64) (l := mergeS p a b) (by
      obtain rfl : x = [] := List.length_eq_zero_iff.1 (by omega)
      obtain rfl : k = [] := List.length_eq_zero_iff.1 (by omega)
      unfold mergeS
      rw [f1_5, merge_nil, List.append_nil])
set_option maxHeartbeats 400000 in
set_option maxRecDepth 100000 in
theorem idsMinus_ok (a b : List Int) (ha : a.length ≤ 4194304) (hb : b.length ≤ 4194304) :
    FnV Tryz.prog 24 [(nums a), (nums b)] (nums (minusZ a b)) := by
  refine FnV_intro [.tmp 4] Tryz.func24 rfl Tryz.ntmps24 rfl rfl (fun B F hF => ?_)
  refine SW_P [] [0, 1] ?_
  refine SW_H [] [4] [] (hk 2 (al := [(nums a), (nums b), (.fn 71 [] [])]) en_69 (((merged_ok a b (.fn 71 [] []) (fun _ v => !v) ha hb (fun u v => FunV.of (by exact en_71) (minusC_ok u v))).of_args (ImpL.cons Imp.refl (ImpL.cons Imp.refl (ImpL.cons (Imp.clo rfl) ImpL.nil)))).to (Same.of_eq (by rw [minusS]))) <| hk0) v0 c0 ?_
  refine SW_ret ?_
  refine RK wR [(nums (minusZ a b))] ?_
  exact Same.of_eq (by first | rfl | (simp only [pack]; simp_all))
set_option maxHeartbeats 400000 in
set_option maxRecDepth 100000 in
theorem idsUnion_ok (a b : List Int) (ha : a.length ≤ 4194304) (hb : b.length ≤ 4194304) :
    FnV Tryz.prog 73 [(nums a), (nums b)] (nums (unionZ a b)) := by
  refine FnV_intro [.tmp 4] Tryz.func73 rfl Tryz.ntmps73 rfl rfl (fun B F hF => ?_)
  refine SW_P [] [0, 1] ?_
  refine SW_H [] [4] [] (hk 2 (al := [(nums a), (nums b), (.fn 127 [] [])]) en_69 (((merged_ok a b (.fn 127 [] []) (fun _ _ => true) ha hb (fun u v => FunV.of (by exact en_127) (unionC_ok u v))).of_args (ImpL.cons Imp.refl (ImpL.cons Imp.refl (ImpL.cons (Imp.clo rfl) ImpL.nil)))).to (Same.of_eq (by rw [unionS]))) <| hk0) v0 c0 ?_
  refine SW_ret ?_
  refine RK wR [(nums (unionZ a b))] ?_
  exact Same.of_eq (by first | rfl | (simp only [pack]; simp_all))
end Sv
end Go.Proofs.YtlfjokcbkopfeaaGreatDoor
end
section
namespace Go.Proofs.YtlfjokcbkopfeaaGreatDoor
open Go Go.RowKit
namespace Sv
attribute [local irreducible] SW SO holds
theorem en_17 : Enters Tryz.prog 17 := enters_of Tryz.func17 (by kernel_rfl) rfl
theorem sameI_yes {a b : List Int} (hl : a.length = b.length) (h : ∀ j, j < a.length → nth a j = nth b j) : decide (a = b) = true := decide_eq_true (List.ext_getElem hl fun j h1 h2 => by
  have := h j h1
  rwa [nth_at h1, nth_at h2] at this)
theorem sameI_no {a b : List Int} {i : Nat} (h : ¬ nth a i = nth b i) : decide (a = b) = false := decide_eq_false fun e => h (by rw [e])
theorem sameI_len {a b : List Int} (h : ¬ a.length = b.length) : decide (a = b) = false := decide_eq_false fun e => h (by rw [e])
set_option maxHeartbeats 400000 in
set_option maxRecDepth 100000 in
theorem rSame_ok (a b : List Int) (ha : a.length ≤ 4611686018427) :
    FnV Tryz.prog 17 [(nums a), (nums b)] (.bool (decide (a = b))) := by
  refine FnV_intro [.tmp 4] Tryz.func17 rfl Tryz.ntmps17 rfl rfl (fun B F hF => ?_)
  refine SW_P [] [0, 1] ?_
  refine SW_seq ?_
  refine SW_P [] [0, 1, 10] ?_
  refine SW_ifn (p := (a.length : Int) = (b.length : Int)) (by kernel_rfl) (fun c1 => ?_) (fun c1 => ?_)
  · skip
    refine SW_P [] [4] ?_
    refine SW_ret ?_
    refine RK wR [(.bool (false))] ?_
    exact Same.of_eq (by rw [sameI_len (by omega)]; rfl)
  · skip
    refine SW_skip ?_
    refine SW_seq ?_
    refine SW_P [] [0, 1, 5] ?_
    refine SW_block ?_
    refine SW_L (fun g y => ∃ (i : Nat), i ≤ a.length ∧ (∀ j, j < i → nth a j = nth b j) ∧ y = ⟨[(0, (nums a)), (1, (nums b)), (5, (.int .i64 ((i : Int))))], [], 0⟩ ∧ g = a.length - i) [0, 1, 5] 0 _ (by omega) ⟨0, (by omega), (by exact fun j hj => by omega), (by kernel_rfl), rfl⟩ ?_
    rintro g1 y1 ⟨i, f1_1, f1_2, rfl, rfl⟩
    refine SW_seq ?_
    refine SW_P [] [0, 1, 5, 14] ?_
    refine SW_if (p := (i : Int) < (a.length : Int)) (by kernel_rfl) (fun c2 => ?_) (fun c2 => ?_)
    · skip
      refine SW_skip ?_
      refine SW_seq ?_
      refine SW_block ?_
      refine SW_D (CS := [(2, (0 ≤ (i : Int) ∧ i < a.length)), (6, (0 ≤ (i : Int) ∧ i < b.length))]) [] [0, 1, 5, 25] [] hk0 v0 (by refine cc _ ?_ <| cc _ ?_ c0 <;> first | omega | (simp; omega) | (simp; done) | (intros; simp_all; omega) | (intros; simp_all; done)) ?_
      refine SW_ifn (p := (nth a i) = (nth b i)) (by kernel_rfl) (fun c3 => ?_) (fun c3 => ?_)
      · skip
        refine SW_P [] [4] ?_
        refine SW_ret ?_
        refine RK wR [(.bool (false))] ?_
        exact Same.of_eq (by rw [sameI_no (i := i) (by simp_all)]; rfl)
      · skip
        refine SW_skip ?_
        refine SW_reg ?_
        refine SO_HA 0 [] [0, 1, 5] [] hk0 v0 (cc 1 (p := (-9223372036854775808 ≤ (i : Int) + 1 ∧ (i : Int) + 1 ≤ 9223372036854775807)) (by first | omega | (simp; omega) | (simp; done) | (intros; simp_all; omega) | (intros; simp_all; done)) <| c0) ?_
        refine ⟨by kernel_rfl, _, ?_, i + 1, ?_, ?_, (by kernel_rfl), rfl⟩
        · omega
        · omega
        · intro j hj
          by_cases h : j = i
          · subst h; simp_all
          · exact f1_2 j (by omega)
    · skip
      refine SW_exit ?_
      refine SW_P [] [4] ?_
      refine SW_ret ?_
      refine RK wR [(.bool (true))] ?_
      exact Same.of_eq (by rw [sameI_yes (by omega) (fun j hj => f1_2 j (by omega))]; rfl)
end Sv
end Go.Proofs.YtlfjokcbkopfeaaGreatDoor
end
section
namespace Go.Proofs.YtlfjokcbkopfeaaGreatDoor
open Go Go.RowKit
namespace Sv
attribute [local irreducible] SW SO holds
def cmpR (k : Int) (a b : List UInt8) : Int × Int := if ¬ (bothR k a b).2.2 = 0 then (0, (bothR k a b).2.2) else (orI (evrPartsN k (bothR k a b).1 (bothR k a b).2.1).1 (evrPartsN k (bothR k a b).1 (bothR k a b).2.1).2, 0)
def Sgn (x : Int) : Prop := -1 ≤ x ∧ x ≤ 1
theorem sgn0 : Sgn 0 := ⟨by decide, by decide⟩
theorem sgn1 : Sgn 1 := ⟨by decide, by decide⟩
theorem sgnN : Sgn (-1) := ⟨by decide, by decide⟩
theorem cmp_in (a b : Int) : Sgn (cmpI a b) := by unfold cmpI Sgn; split <;> (try split) <;> omega
theorem or_in {a b : Int} (h1 : Sgn a) (h2 : Sgn b) : Sgn (orI a b) := by unfold orI; split <;> assumption
theorem order_in {g : Int} (a b : Bool) (h : Sgn g) : Sgn (orderN a b g) := by unfold orderN Sgn at *; split <;> (try split) <;> omega
theorem bytes_in : ∀ a b : List UInt8, Sgn (Lib.compareBytes a b)
 | [], [] => sgn0
 | [], _ :: _ => sgnN
 | _ :: _, [] => sgn1
 | a :: r, b :: s => by
  unfold Lib.compareBytes
  split
  ·exact sgnN
  ·split
   ·exact sgn1
   ·exact bytes_in r s
theorem numbers_in (a b : List UInt8) : Sgn (numbersN a b) := or_in (cmp_in _ _) (bytes_in _ _)
theorem deb_in : ∀ (n : Nat) (a b : List UInt8), Sgn (debF n a b)
 | 0, _, _ => sgn0
 | n + 1, a, b => by
  unfold debF
  split
  ·split
   ·exact cmp_in _ _
   ·exact deb_in n _ _
  ·split
   ·exact numbers_in _ _
   ·split
    ·exact deb_in n _ _
    ·exact sgn0
theorem rpm_in : ∀ (n : Nat) (a b : List UInt8), Sgn (rpmF n a b)
 | 0, _, _ => sgn0
 | n + 1, a, b => by
  unfold rpmF rpmB
  repeat' split
  all_goals first | exact rpm_in n _ _ | exact order_in _ _ sgn1 | exact order_in _ _ sgnN | exact cmp_in _ _ | exact numbers_in _ _ | exact bytes_in _ _ | exact sgn1 | exact sgnN
theorem cmpR_in (k : Int) (a b : List UInt8) : Sgn (cmpR k a b).1 := by
 unfold cmpR
 split
 ·exact sgn0
 ·have h1 : ∀ x y : List UInt8 × List UInt8 × List UInt8, Sgn (evrPartsN k x y).1 ∧ Sgn (evrPartsN k x y).2 := fun x y => by
   unfold evrPartsN debN rpmN
   split
   ·exact ⟨or_in (numbers_in _ _) (deb_in _ _ _), deb_in _ _ _⟩
   ·split
    ·exact ⟨or_in (numbers_in _ _) (rpm_in _ _ _), order_in _ _ sgn1⟩
    ·exact ⟨or_in (numbers_in _ _) (rpm_in _ _ _), rpm_in _ _ _⟩
  exact or_in (h1 _ _).1 (h1 _ _).2
set_option maxHeartbeats 1000000 in
set_option maxRecDepth 100000 in
theorem compare_ok (k : Int) (a b : List UInt8) (ha : a.length ≤ 4194304) (hb : b.length ≤ 4194304) :
  FnV Tryz.prog 80 [(.int .i64 k), (.str a), (.str b)] (.tup [.int .i64 (cmpR k a b).1, .int .i64 (cmpR k a b).2]) := by
 have hbl := bothR_len k a b
 refine FnV_intro [.tmp 6, .tmp 7] Tryz.func80 rfl Tryz.ntmps80 rfl rfl (fun B F hF => ?_)
 refine SW_P [] [0, 1, 2] ?_
 refine SW_H [] [0, 8, 9, 10] [(11, 8), (12, 9)] (hk 3 en_129 (both_ok k a b (by omega) (by omega)) <| hk0) v0 c0 ?_
 refine SW_seq ?_
 refine SW_P [] [0, 8, 9, 10, 20] ?_
 refine SW_ifn (p := ((bothR k a b).2.2) = 0) (by kernel_rfl) (fun c1 => ?_) (fun c1 => ?_)
 ·refine SW_P [] [6, 7] ?_
  refine SW_ret ?_
  refine RK wR [(.int .i64 0), (.int .i64 ((bothR k a b).2.2))] ?_
  exact Same.of_eq (by simp only [pack]; unfold cmpR; rw [if_pos (by assumption)])
 ·refine SW_skip ?_
  refine SW_H [] [6, 7] [(7, 28)] (hk 3 en_131 (parts_ok k (bothR k a b).1 (bothR k a b).2.1 ⟨by omega, by omega, by omega⟩ ⟨by omega, by omega, by omega⟩) <| hk 7 en_130 (or_ok (evrPartsN k (bothR k a b).1 (bothR k a b).2.1).1 (evrPartsN k (bothR k a b).1 (bothR k a b).2.1).2) <| hk0) (vk 7 28 (b := (nums [(evrPartsN k (bothR k a b).1 (bothR k a b).2.1).1, (evrPartsN k (bothR k a b).1 (bothR k a b).2.1).2])) (Imp.list (f := AV.int .i64) rfl) <| v0) c0 ?_
  refine SW_ret ?_
  refine RK wR [(.int .i64 (orI (evrPartsN k (bothR k a b).1 (bothR k a b).2.1).1 (evrPartsN k (bothR k a b).1 (bothR k a b).2.1).2)), (.int .i64 0)] ?_
  exact Same.of_eq (by simp only [pack]; unfold cmpR; rw [if_neg (by simp_all)])
end Sv
end Go.Proofs.YtlfjokcbkopfeaaGreatDoor
end
section
namespace Go.Proofs.YtlfjokcbkopfeaaGreatDoor
open Go Go.RowKit
namespace Sv
abbrev StepT := Int × Int × Int
def comesB (k : Int) : Bool := decide (k = 1) || (decide (k = 3) || (decide (k = 4) || decide (k = 5)))
def goesB (k : Int) : Bool := decide (k = 2) || (decide (k = 6) || decide (k = 7))
def applyF (s : List Int) (q : StepT) : List Int := if comesB q.1 = true then unionZ s [q.2.1] else if goesB q.1 = true then minusZ s [q.2.1] else s
def applyR (l : List Int) (q : List StepT) : List Int := q.foldl applyF (setZ l)
theorem applyR_snoc {l : List Int} {q : List StepT} {x : StepT} : applyR l (q ++ [x]) = applyF (applyR l q) x := by unfold applyR; rw [List.foldl_append]; rfl
theorem foldl_ind {α β : Type} {C : β → Prop} {f : β → α → β} (h : ∀ s a, C s → C (f s a)) : ∀ (l : List α) (s : β), C s → C (l.foldl f s)
  | [], _, k => k
  | a :: l, s, k => foldl_ind h l _ (h s a k)
theorem applyR_rise (l : List Int) (q : List StepT) : RiseI (applyR l q) := foldl_ind (C := RiseI) (fun s a h => by
  unfold applyF
  split
  · exact unionZ_rise _ _
  · split
    · exact minusZ_rise _ _
    · exact h) q _ (setZ_rise l)
theorem applyF_len (s : List Int) (x : StepT) : (applyF s x).length ≤ s.length + 1 := by
  unfold applyF
  split
  · have := setZ_len (s ++ [x.2.1])
    unfold unionZ
    rw [List.length_append, List.length_singleton] at this
    exact this
  · split
    · have h1 := setZ_len (s.filter fun z => !decide (z ∈ [x.2.1]))
      have h2 := List.length_filter_le (fun z => !decide (z ∈ [x.2.1])) s
      unfold minusZ; omega
    · omega
theorem applyR_len (l : List Int) (q : List StepT) : (applyR l q).length ≤ l.length + q.length := by
  have h : ∀ (q : List StepT) (s : List Int), (q.foldl applyF s).length ≤ s.length + q.length := by
    intro q
    induction q with
    | nil => intro s; exact Nat.le_refl _
    | cons x q ih =>
      intro s
      have h1 := applyF_len s x
      have h2 := ih (applyF s x)
      simp only [List.foldl_cons, List.length_cons]; omega
  have h1 := h q (setZ l)
  have h2 := setZ_len l
  unfold applyR; omega
theorem foldl_steps {z : Int} : ∀ (q : List StepT) (s : List Int), (∀ x ∈ q, comesB x.1 = true ∨ goesB x.1 = true) → (q.map fun x => x.2.1).Nodup → (z ∈ q.foldl applyF s ↔ (∃ x ∈ q, x.2.1 = z ∧ comesB x.1 = true) ∨ (z ∈ s ∧ ∀ x ∈ q, x.2.1 = z → comesB x.1 = true))
  | [], s, _, _ => by simp
  | x :: q, s, hk, hn => by
    rw [List.map_cons, List.nodup_cons] at hn
    have ih := foldl_steps (z := z) q (applyF s x) (fun y hy => hk y (by simp [hy])) hn.2
    rw [List.foldl_cons, ih]
    have hx := hk x (by simp)
    by_cases e : x.2.1 = z
    · have no : ¬ ∃ y ∈ q, y.2.1 = z ∧ comesB y.1 = true := fun ⟨y, hy, h1, _⟩ => hn.1 (List.mem_map.2 ⟨y, hy, by rw [h1, e]⟩)
      have all : ∀ y ∈ q, y.2.1 = z → comesB y.1 = true := fun y hy h1 => absurd (List.mem_map.2 ⟨y, hy, by rw [h1, e]⟩) hn.1
      by_cases c : comesB x.1 = true
      · have m : z ∈ applyF s x := by unfold applyF; rw [if_pos c, unionZ_mem]; simp [e]
        exact ⟨fun _ => .inl ⟨x, by simp, e, c⟩, fun _ => .inr ⟨m, all⟩⟩
      · have g := hx.resolve_left c
        have m : ¬ z ∈ applyF s x := by unfold applyF; rw [if_neg c, if_pos g, minusZ_mem]; simp [e]
        constructor
        · rintro (h | h)
          · exact absurd h no
          · exact absurd h.1 m
        · rintro (⟨y, hy, h1, h2⟩ | h)
          · rcases List.mem_cons.1 hy with rfl | hy
            · exact absurd h2 c
            · exact absurd ⟨y, hy, h1, h2⟩ no
          · exact absurd (h.2 x (by simp) e) c
    · have m : z ∈ applyF s x ↔ z ∈ s := by
        unfold applyF
        split
        · rw [unionZ_mem, List.mem_singleton]; exact ⟨fun h => h.resolve_right fun k => e k.symm, .inl⟩
        · split
          · rw [minusZ_mem, List.mem_singleton]; exact ⟨fun h => h.1, fun h => ⟨h, fun k => e k.symm⟩⟩
          · exact Iff.rfl
      rw [m]
      constructor
      · rintro (⟨y, hy, h⟩ | ⟨h1, h2⟩)
        · exact .inl ⟨y, by simp [hy], h⟩
        · exact .inr ⟨h1, fun y hy k => by
            rcases List.mem_cons.1 hy with rfl | hy
            · exact absurd k e
            · exact h2 y hy k⟩
      · rintro (⟨y, hy, h⟩ | ⟨h1, h2⟩)
        · rcases List.mem_cons.1 hy with rfl | hy
          · exact absurd h.1 e
          · exact .inl ⟨y, hy, h⟩
        · exact .inr ⟨h1, fun y hy => h2 y (by simp [hy])⟩
def findI (p : Int → Bool) (l : List Int) : Int := if 0 ≤ idxF p l then nth l (idxF p l).toNat else -1
theorem rise_nodup : ∀ {l : List Int}, RiseI l → l.Nodup
  | [], _ => List.nodup_nil
  | x :: l, h => List.nodup_cons.2 ⟨fun k => by have := h.1 x k; omega, rise_nodup h.2⟩
section
variable {f : List Int → List Int → Int → StepT} {a b : List Int}
def StepOk (f : List Int → List Int → Int → StepT) : Prop := ∀ c g i, (f c g i).2.1 = i ∧ (i ∈ c → comesB (f c g i).1 = true ∧ goesB (f c g i).1 = false) ∧ (¬ i ∈ c → comesB (f c g i).1 = false ∧ goesB (f c g i).1 = true)
def stepsL (f : List Int → List Int → Int → StepT) (a b : List Int) : List StepT := (unionZ (minusZ b a) (minusZ a b)).map (f (minusZ b a) (minusZ a b))
theorem steps_pkgs (h : StepOk f) : (stepsL f a b).map (fun x => x.2.1) = unionZ (minusZ b a) (minusZ a b) := by
  unfold stepsL
  rw [List.map_map]
  refine Eq.trans (List.map_congr_left fun i _ => (h _ _ i).1) (List.map_id _)
theorem steps_lead (h : StepOk f) (hb : RiseI b) {q : List StepT} (hq : q.Perm (stepsL f a b)) : applyR a q = b := by
  have hn : (q.map fun x => x.2.1).Nodup := by
    rw [(hq.map fun x => x.2.1).nodup_iff, steps_pkgs h]
    exact rise_nodup (unionZ_rise _ _)
  have hm : ∀ x, x ∈ q ↔ x ∈ stepsL f a b := fun x => hq.mem_iff
  have hk : ∀ x ∈ q, ∃ i, (i ∈ minusZ b a ∨ i ∈ minusZ a b) ∧ x.2.1 = i ∧ (comesB x.1 = true ↔ i ∈ minusZ b a) ∧ (comesB x.1 = true ∨ goesB x.1 = true) := fun x hx => by
    obtain ⟨i, hi, rfl⟩ := List.mem_map.1 ((hm x).1 hx)
    have k := h (minusZ b a) (minusZ a b) i
    refine ⟨i, unionZ_mem.1 hi, k.1, ?_, ?_⟩
    · by_cases c : i ∈ minusZ b a
      · exact ⟨fun _ => c, fun _ => (k.2.1 c).1⟩
      · exact ⟨fun q => absurd q (by rw [(k.2.2 c).1]; decide), fun q => absurd q c⟩
    · by_cases c : i ∈ minusZ b a
      · exact .inl (k.2.1 c).1
      · exact .inr (k.2.2 c).2
  refine rise_ext (applyR_rise _ _) hb fun z => ?_
  unfold applyR
  rw [foldl_steps q _ (fun x hx => (hk x hx).elim fun i k => k.2.2.2) hn, setZ_mem]
  constructor
  · rintro (⟨x, hx, rfl, hc⟩ | ⟨h1, h2⟩)
    · obtain ⟨i, _, e, hi, _⟩ := hk x hx
      rw [e]; exact (minusZ_mem.1 (hi.1 hc)).1
    · by_cases hz : z ∈ b
      · exact hz
      · have hu : z ∈ unionZ (minusZ b a) (minusZ a b) := unionZ_mem.2 (.inr (minusZ_mem.2 ⟨h1, hz⟩))
        have k := h (minusZ b a) (minusZ a b) z
        have hx := h2 (f (minusZ b a) (minusZ a b) z) ((hm _).2 (List.mem_map.2 ⟨z, hu, rfl⟩)) k.1
        rw [(k.2.2 fun c => hz (minusZ_mem.1 c).1).1] at hx; cases hx
  · intro hz
    by_cases ha : z ∈ a
    · refine .inr ⟨ha, fun x hx e => ?_⟩
      obtain ⟨i, hi, e', hc, _⟩ := hk x hx
      rw [e] at e'; subst e'
      rcases hi with hi | hi
      · exact absurd ha (minusZ_mem.1 hi).2
      · exact absurd hz (minusZ_mem.1 hi).2
    · have hc : z ∈ minusZ b a := minusZ_mem.2 ⟨hz, ha⟩
      have k := h (minusZ b a) (minusZ a b) z
      exact .inl ⟨_, (hm _).2 (List.mem_map.2 ⟨z, unionZ_mem.2 (.inl hc), rfl⟩), k.1, (k.2.1 hc).1⟩
theorem union_turn : unionZ (minusZ a b) (minusZ b a) = unionZ (minusZ b a) (minusZ a b) := setZ_congr fun x => by simp [or_comm]
theorem steps_len : (stepsL f a b).length = (unionZ (minusZ b a) (minusZ a b)).length := by unfold stepsL; rw [List.length_map]
theorem steps_back_len : (stepsL f a b).length = (stepsL f b a).length := by rw [steps_len, steps_len, union_turn]
theorem steps_back (h : StepOk f) {i : Nat} (hi : i < (stepsL f a b).length) : (nth (stepsL f a b) i).2.1 = (nth (stepsL f b a) i).2.1 ∧ comesB (nth (stepsL f a b) i).1 = goesB (nth (stepsL f b a) i).1 := by
  have hi' : i < (stepsL f b a).length := by rw [← steps_back_len]; exact hi
  have hu : i < (unionZ (minusZ b a) (minusZ a b)).length := by rw [← steps_len (f := f)]; exact hi
  have hv : i < (unionZ (minusZ a b) (minusZ b a)).length := by rw [union_turn]; exact hu
  have e1 : nth (stepsL f a b) i = f (minusZ b a) (minusZ a b) (nth (unionZ (minusZ b a) (minusZ a b)) i) := by unfold stepsL nth; rw [List.getElem?_map, List.getElem?_eq_getElem hu]; rfl
  have e2 : nth (stepsL f b a) i = f (minusZ a b) (minusZ b a) (nth (unionZ (minusZ b a) (minusZ a b)) i) := by rw [← union_turn (a := a) (b := b)]; unfold stepsL nth; rw [List.getElem?_map, List.getElem?_eq_getElem hv]; rfl
  rw [e1, e2]
  have hm : nth (unionZ (minusZ b a) (minusZ a b)) i ∈ unionZ (minusZ b a) (minusZ a b) := by unfold nth; rw [List.getElem?_eq_getElem hu]; exact List.getElem_mem hu
  generalize nth (unionZ (minusZ b a) (minusZ a b)) i = z at hm
  have k1 := h (minusZ b a) (minusZ a b) z
  have k2 := h (minusZ a b) (minusZ b a) z
  refine ⟨by rw [k1.1, k2.1], ?_⟩
  rcases unionZ_mem.1 hm with c | c
  · have n : ¬ z ∈ minusZ a b := fun q => (minusZ_mem.1 q).2 (minusZ_mem.1 c).1
    rw [(k1.2.1 c).1, (k2.2.2 n).2]
  · have n : ¬ z ∈ minusZ b a := fun q => (minusZ_mem.1 q).2 (minusZ_mem.1 c).1
    rw [(k1.2.2 n).1, (k2.2.1 c).2]
end
def turnL {α : Type} [Inhabited α] (l : List α) (k : Nat) : List α := (l.set 0 (nth l k)).set k (nth l 0)
theorem turn_perm {α : Type} [Inhabited α] {l : List α} {k : Nat} (h : k < l.length) : (turnL l k).Perm l := by
  unfold turnL
  cases l with
  | nil => simp at h
  | cons a l =>
    cases k with
    | zero => simp [nth]
    | succ k =>
      simp only [List.length_cons] at h
      have hk : k < l.length := by omega
      have e : nth (a :: l) (k + 1) = l[k] := by simp [nth, hk]
      have e0 : nth (a :: l) 0 = a := rfl
      rw [e, e0, List.set_cons_zero, List.set_cons_succ]
      have h1 : (l.set k a).Perm (a :: (l.take k ++ l.drop (k + 1))) := by
        rw [List.set_eq_take_append_cons_drop, if_pos hk]; exact List.perm_middle
      have h2 : l.Perm (l[k] :: (l.take k ++ l.drop (k + 1))) := by
        have h3 : l = l.take k ++ l[k] :: l.drop (k + 1) := by rw [List.getElem_cons_drop, List.take_append_drop]
        exact (List.Perm.of_eq h3).trans List.perm_middle
      exact ((h1.cons _).trans (List.Perm.swap _ _ _)).trans (h2.symm.cons a)
def nameAt (st : PoolT) (o : Int) : List UInt8 := (nth st.all o.toNat).1.name
def evrAt (st : PoolT) (o : Int) : List UInt8 := (nth st.all o.toNat).1.evr
def sameN (st : PoolT) (id o : Int) : Bool := decide (nameAt st o = nameAt st id)
def obsBy (m : Int → Int → List UInt8 → Int → List UInt8 → Bool × Int) (st : PoolT) (id o : Int) : Bool := (nth st.all o.toNat).1.obsoletes.any fun d => decide (id ∈ (obsR m st d).1)
def comeS (st : PoolT) (g : List Int) (id : Int) : StepT :=
  if 0 ≤ findI (sameN st id) g then (nth [4, 5, 3] ((cmpR st.kind (evrAt st id) (evrAt st (findI (sameN st id) g))).1 + 1).toNat, id, findI (sameN st id) g) else (1, id, findI (sameN st id) g)
def goS (m : Int → Int → List UInt8 → Int → List UInt8 → Bool × Int) (st : PoolT) (c : List Int) (id : Int) : StepT :=
  if 0 ≤ findI (sameN st id) c then (6, id, findI (sameN st id) c) else if 0 ≤ findI (obsBy m st id) c then (7, id, findI (obsBy m st id) c) else (2, id, findI (obsBy m st id) c)
def stepR (m : Int → Int → List UInt8 → Int → List UInt8 → Bool × Int) (st : PoolT) (c g : List Int) (id : Int) : StepT := if id ∈ c then comeS st g id else goS m st c id
def oddB (st : PoolT) (id : Int) : Bool := decide (id < 0) || decide ((st.all.length : Int) ≤ id)
def stepsR (m : Int → Int → List UInt8 → Int → List UInt8 → Bool × Int) (st : PoolT) (a b : List Int) : List StepT × Int := if a.any (oddB st) = true ∨ b.any (oddB st) = true then ([], 69) else (stepsL (stepR m st) a b, 0)
theorem step_ok (m : Int → Int → List UInt8 → Int → List UInt8 → Bool × Int) (st : PoolT) : StepOk (stepR m st) := by
  intro c g i
  refine ⟨?_, fun h => ?_, fun h => ?_⟩
  · unfold stepR comeS goS
    repeat' split
    all_goals rfl
  · unfold stepR comeS
    rw [if_pos h]
    split
    · have h1 := cmpR_in st.kind (evrAt st i) (evrAt st (findI (sameN st i) g))
      unfold Sgn at h1
      generalize (cmpR st.kind (evrAt st i) (evrAt st (findI (sameN st i) g))).1 = x at h1
      rcases (by omega : x = -1 ∨ x = 0 ∨ x = 1) with rfl | rfl | rfl <;> exact ⟨rfl, rfl⟩
    · exact ⟨rfl, rfl⟩
  · unfold stepR goS
    rw [if_neg h]
    repeat' split
    all_goals exact ⟨rfl, rfl⟩
theorem steps_known {m : Int → Int → List UInt8 → Int → List UInt8 → Bool × Int} {st : PoolT} {a b : List Int} (ha : ∀ x ∈ a, 0 ≤ x ∧ x < st.all.length) (hb : ∀ x ∈ b, 0 ≤ x ∧ x < st.all.length) : stepsR m st a b = (stepsL (stepR m st) a b, 0) := by
  have k : ∀ l : List Int, (∀ x ∈ l, 0 ≤ x ∧ x < st.all.length) → l.any (oddB st) = false := fun l h => by
    rw [List.any_eq_false]
    intro x hx
    have := h x hx
    unfold oddB
    simp; omega
  unfold stepsR
  rw [k a ha, k b hb]; rfl
end Sv
end Go.Proofs.YtlfjokcbkopfeaaGreatDoor
end
section
namespace Go.Proofs.YtlfjokcbkopfeaaGreatDoor
open Go Go.RowKit
set_option linter.unusedSimpArgs false
set_option linter.unusedVariables false
namespace Sv
section
variable {P : Program} {n : Nat} {φ : Phi} {σ : Nat → Value}
theorem slice3_by {dst : Option Tmp} {t : Nat} {X LO HI MX : Operand} {ty : TypeId} {ps : String} {af : Array Edge} {g : Option (Nat × Bool)} {e sz len i j m : Nat} {k1 k2 k3 : IntKind} {gf : Nat → AV} {s : Fr}
    (he : elemT P t = some e) (hs : tsz P e = some sz) (hx : evA s X = some (.row sz len gf)) (h1 : evA s LO = some (.int k1 (i : Int))) (h2 : evA s HI = some (.int k2 (j : Int))) (h3 : evA s MX = some (.int k3 (m : Int)))
    (hj : i < j) (hjm : j ≤ m) (hm : m ≤ len) (φ : Phi) (σ : Nat → Value) (h : FRel φ n s σ) :
    ∃ v, (∀ w, (execOp (ev n σ) ⟨dst, .slice t X (some LO) (some HI) (some MX), ty, ps, af, g⟩).run P w = .ok (.value v) w) ∧ VR φ (.row sz (j - i) (fun q => gf (i + q))) v := by
  have hx := h.ev _ _ hx
  have h1 := h.ev _ _ h1
  have h2 := h.ev _ _ h2
  have h3 := h.ev _ _ h3
  simp only [VR] at hx h1 h2 h3
  obtain ⟨u, hu, hr⟩ := hx
  rcases hr with ⟨h0, _⟩ | ⟨b, o, c, hv, hmc, hl⟩
  · omega
  · have hb := fun w => run_bounds (P := P) (isS := true) (len := len) (cap := c) (i := i) (j := j) (m := m) (lo := some (.int k1 (i : Int))) (hi := some (.int k2 (j : Int))) (mx := some (.int k3 (m : Int))) (.inr ⟨_, rfl⟩) (.inr ⟨_, rfl⟩) (.inr ⟨⟨_, rfl⟩, by simp⟩) (by omega) (by omega) (by omega) w
    refine ⟨.slice (some (if m = i then ⟨b, o, none⟩ else (⟨b, o, none⟩ : Addr).add (i * sz))) (j - i) (m - i), fun w => ?_, ?_⟩
    · simp only [execOp, Instr.sliceAt, Instr.slice, Sem.run_bind, Sem.run_pure, run_underlying (elemT_u he), Result.andThen_ok, hv, hb, tsz_run hs, Option.map_some, h1, h2, h3] <;> (try split) <;> rfl
    · simp only [VR]
      refine ⟨fun q => u (i + q), fun q hq => hu _ (by omega), .inr ⟨b, o + i * sz, m - i, by rw [if_neg (by omega), addr_add], by omega, fun q hq => ?_⟩⟩
      have := hl (i + q) (by omega)
      refine ⟨this.1, ?_⟩
      rw [show o + i * sz + q * sz = o + (i + q) * sz by rw [Nat.add_mul]; omega]
      exact this.2
end
end Sv
end Go.Proofs.YtlfjokcbkopfeaaGreatDoor
end
section
namespace Go.Proofs.YtlfjokcbkopfeaaGreatDoor
open Go Go.RowKit
namespace Sv
attribute [local irreducible] SW SO holds
theorem en_81 : Enters Tryz.prog 81 := enters_of Tryz.func81 (by kernel_rfl) rfl
theorem en_79 : Enters Tryz.prog 79 := enters_of Tryz.func79 (by kernel_rfl) rfl
theorem en_76 : Enters Tryz.prog 76 := enters_of Tryz.func76 (by kernel_rfl) rfl
theorem en_77 : Enters Tryz.prog 77 := enters_of Tryz.func77 (by kernel_rfl) rfl
theorem en_82 : Enters Tryz.prog 82 := enters_of Tryz.func82 (by kernel_rfl) rfl
theorem en_84 : Enters Tryz.prog 84 := enters_of Tryz.func84 (by kernel_rfl) rfl
theorem pkg_lens {p : PkgT} {n : Nat} (h : p.size ≤ n) : p.evr.length ≤ n ∧ p.obsoletes.length ≤ n ∧ ∀ i, i < p.obsoletes.length → (nth p.obsoletes i).size ≤ n := by
  have hz := p.sizes
  have h1 := args_len p.obsoletes
  unfold PkgT.depSize at hz
  refine ⟨by omega, by omega, fun i hi => ?_⟩
  have h2 := argsSize_nth (l := p.obsoletes) (i := i) hi
  omega
theorem any_mem (l : List Int) (v : Int) : (l.any fun x => decide (v = x)) = decide (v ∈ l) := by
  rw [Bool.eq_iff_iff]; simp
theorem obsR_len {st : PoolT} (hi : IdxOk st) {d : DepT} : (obsR meetsN st d).1.length ≤ 4611686018427387904 := by
  unfold obsR
  split
  · exact namedL_len hi
  · simp
theorem int_of {x : Int} (h : 0 ≤ x) : x = ((x.toNat : Nat) : Int) := by omega
set_option maxHeartbeats 400000 in
set_option maxRecDepth 100000 in
theorem kindsD_ok  :
    FnV Tryz.prog 81 [] (nums [4, 5, 3]) := by
  refine FnV_intro [.tmp 0] Tryz.func81 rfl Tryz.ntmps81 rfl rfl (fun B F hF => ?_)
  refine SW_P [] [] ?_
  refine SW_P [] [1] ?_
  refine SW_seq ?_
  refine SW_reg ?_
  refine SO_H 1 0 [] [3] [] hk0 v0 c0 ?_
  refine SO_still 3 (y := ⟨[(3, (.row 1 4 (fun ix => (chunk 1 4 [(.int .i64 (4)), (.int .i64 (5)), (.int .i64 (3)), (.int .i64 (6))]).getD ix junk)))], [], 1⟩) (by kernel_rfl) ?_
  refine SO_conv 3 (nums [4, 5, 3, 6]) (by kernel_rfl) (Imp.list (f := AV.int .i64) rfl) ?_
  refine SO_by (s' := [(3, (nums [4, 5, 3, 6])), (4, (.row 1 (3 - 0) (fun kx => rowG (nums [4, 5, 3, 6]) (0 + kx))))]) (.row 1 (3 - 0) (fun kx => rowG (nums [4, 5, 3, 6]) (0 + kx))) (by kernel_rfl) (slice3_by (k1 := .i64) (k2 := .i64) (k3 := .i64) (e := 3) (i := 0) (j := 3) (m := 3) (len := [4, 5, 3, 6].length) (gf := rowG (nums [4, 5, 3, 6])) (by kernel_rfl) (by kernel_rfl) (by kernel_rfl) (by kernel_rfl) (by kernel_rfl) (by kernel_rfl) (by decide) (by decide) (by simp)) (by kernel_rfl) ?_
  refine SO_HA 2 [] [0] [] hk0 v0 c0 ?_
  refine SW_ret ?_
  refine RK wR [(.row 1 (3 - 0) (fun kx => rowG (nums [4, 5, 3, 6]) (0 + kx)))] ?_
  simp only [pack]
  exact (Imp.row fun i hi => Imp.of_eq (by rcases (by simpa using hi : i < 3) with h; rcases (by omega : i = 0 ∨ i = 1 ∨ i = 2) with rfl | rfl | rfl <;> rfl)).same
set_option maxHeartbeats 400000 in
set_option maxRecDepth 100000 in
theorem find_ok (l : List Int) (a : AV) (p : Int → Bool) (hl : l.length ≤ 4611686018427387904) (ha : ∀ i, i < l.length → FunV Tryz.prog a [.int .i64 (nth l i)] (.bool (p (nth l i)))) :
    FnV Tryz.prog 79 [(nums l), (.int .i64 (-1)), (.clo a)] (.int .i64 (findI p l)) := by
  have hle := idxF_le p l
  refine FnV_intro [.tmp 6] Tryz.func79 rfl Tryz.ntmps79 rfl rfl (fun B F hF => ?_)
  refine SW_P [] [0, 1, 2] ?_
  refine SW_seq ?_
  refine SW_H [] [0, 1, 7] [] (hk 2 en_119 (intF_idx l a p hl ha) <| hk0) v0 c0 ?_
  refine SW_P [] [0, 1, 7, 12] ?_
  refine SW_if (p := 0 ≤ (idxF p l)) (by kernel_rfl) (fun c1 => ?_) (fun c1 => ?_)
  · skip
    refine SW_H [] [6] [] hk0 v0 (cc 2 (p := (0 ≤ idxF p l ∧ (idxF p l : Int).toNat < l.length)) (by first | omega | (simp; omega) | (simp; done) | (intros; simp_all; omega) | (intros; simp_all; done)) <| c0) ?_
    refine SW_ret ?_
    refine RK wR [(.int .i64 (nth l ((idxF p l : Int).toNat)))] ?_
    exact Same.of_eq (by simp only [pack]; unfold findI; rw [if_pos (by simp_all)])
  · skip
    refine SW_skip ?_
    refine SW_P [] [6] ?_
    refine SW_ret ?_
    refine RK wR [(.int .i64 (-1))] ?_
    exact Same.of_eq (by simp only [pack]; unfold findI; rw [if_neg (by simp_all)])
set_option maxHeartbeats 400000 in
set_option maxRecDepth 100000 in
theorem oddD_ok (st : PoolT) (id : Int) :
    FnV Tryz.prog 76 [(.int .i64 (id)), (.fp (.agg [(.fp (poolX st))]))] (.bool (oddB st id)) := by
  refine FnV_intro [.tmp 3] Tryz.func76 rfl Tryz.ntmps76 rfl rfl (fun B F hF => ?_)
  refine SW_P [] [0, 1] ?_
  obtain ⟨b1, hb1⟩ : ∃ b, b = (decide (id < 0)) := ⟨_, rfl⟩
  refine SW_H (CS := [(5, (!b1) = true → (!b1) = true), (6, ((!b1) = true → (!b1) = true ∧ (!b1) = true)), (7, (b1 = false → (!b1) = true))]) [7, 8, 10] [3] [] (hkg 5 (!b1) en_43 (fun cg => Len_ok st) <| hk0) (vk 3 6 (a := .bool (decide (id < 0))) (b := .bool b1) (Imp.of_eq (by rw [hb1])) <| v0) (by refine cc _ ?_ <| cc _ ?_ <| cc _ ?_ c0 <;> first | omega | (simp; omega) | (simp; done) | (intros; simp_all; omega) | (intros; simp_all; done)) ?_
  refine SW_ret ?_
  refine RK wR [(.bool (b1 || (decide ((st.all.length : Int) ≤ id))))] ?_
  subst hb1
  exact Same.of_eq (by simp only [pack]; rfl)
set_option maxHeartbeats 400000 in
set_option maxRecDepth 100000 in
theorem namedD_ok (st : PoolT) (hi : IdxOk st) (id : Int) (o : Nat) (ho : o < st.all.length) :
    FnV Tryz.prog 77 [(.int .i64 ((o : Int))), (.fp (.agg [(.fp (poolX st))])), (.fp (pkgX ((nth st.all id.toNat).1)))] (.bool (sameN st id (o : Int))) := by
  refine FnV_intro [.tmp 4] Tryz.func77 rfl Tryz.ntmps77 rfl rfl (fun B F hF => ?_)
  refine SW_P [] [0, 1, 2] ?_
  refine SW_H [] [2, 5] [(9, 5)] (hk 2 en_44 (Package_ok st o ho (hi.2 o ho)) <| hk0) v0 c0 ?_
  refine SW_P [] [4] ?_
  refine SW_ret ?_
  refine RK wR [(.bool (decide (((nth st.all o).1).name = ((nth st.all id.toNat).1).name)))] ?_
  exact Same.of_eq (by simp only [pack]; rfl)
set_option maxHeartbeats 400000 in
set_option maxRecDepth 100000 in
theorem obsD_ok (st : PoolT) (hi : IdxOk st) (id : Int) (d : DepT) (hd : d.size ≤ 4194304) :
    FnV Tryz.prog 84 [(.agg [(.int .i64 (d.kind)), (.str (d.name)), (.int .i64 (d.op)), (.str (d.evr)), (.row 5 d.args.length (depAt d.args))]), (.fp (.agg [(.fp (indexX st))])), (.fp (.agg [(.int .i64 (id))]))] (.bool (decide (id ∈ (obsR meetsN st d).1))) := by
  refine FnV_intro [.tmp 4] Tryz.func84 rfl Tryz.ntmps84 rfl rfl (fun B F hF => ?_)
  refine SW_H [] [1, 2, 3] [(1, 3)] hk0 v0 c0 ?_
  refine SW_H [] [2, 5] [] (hk 2 en_14 (Obsoleted_ok meetsN meets_all st hi d hd) <| hk0) v0 c0 ?_
  refine SW_H [] [4] [] (hk 2 en_78 ((containsI_ok (obsR meetsN st d).1 id (obsR_len hi)).to (Same.of_eq (by rw [any_mem]))) <| hk0) v0 c0 ?_
  refine SW_ret ?_
  refine RK wR [(.bool (decide (id ∈ (obsR meetsN st d).1)))] ?_
  exact Same.of_eq (by first | rfl | (simp only [pack]; simp_all))
theorem obsD_fun (st : PoolT) (hi : IdxOk st) (id : Int) (d : DepT) (hd : d.size ≤ 4194304) : FunV Tryz.prog (.fn 84 [] [.fp (.agg [(.fp (indexX st))]), .fp (.agg [.int .i64 id])]) [(.agg [(.int .i64 (d.kind)), (.str (d.name)), (.int .i64 (d.op)), (.str (d.evr)), (.row 5 d.args.length (depAt d.args))])] (.bool (decide (id ∈ (obsR meetsN st d).1))) := FunV.of (by exact en_84) (obsD_ok st hi id d hd)
set_option maxHeartbeats 400000 in
set_option maxRecDepth 100000 in
theorem obsByD_ok (st : PoolT) (hi : IdxOk st) (id : Int) (o : Nat) (ho : o < st.all.length) :
    FnV Tryz.prog 82 [(.int .i64 ((o : Int))), (.fp (.agg [(.fp (poolX st))])), (.fp (.agg [(.fp (indexX st))])), (.fp (.agg [(.int .i64 (id))]))] (.bool (obsBy meetsN st id (o : Int))) := by
  have hlz := pkg_lens (hi.2 o ho)
  refine FnV_intro [.tmp 5] Tryz.func82 rfl Tryz.ntmps82 rfl rfl (fun B F hF => ?_)
  refine SW_P [] [0, 1, 2, 3] ?_
  refine SW_H [] [2, 3, 6] [(9, 6)] (hk 2 en_44 (Package_ok st o ho (hi.2 o ho)) <| hk0) v0 c0 ?_
  refine SW_seq ?_
  refine SW_reg ?_
  refine SO_H 3 0 [] [17, 18] [] hk0 v0 c0 ?_
  refine SO_callB (s' := [(17, (rowOf 5 depX (((nth st.all o).1).obsoletes))), (18, (.fn 84 [] [(.fp (.agg [(.fp (indexX st))])), (.fp (.agg [(.int .i64 (id))]))])), (19, (.bool ((nth st.all o).1.obsoletes.any fun d => decide (id ∈ (obsR meetsN st d).1))))]) (al := [(rowOf 5 depX (((nth st.all o).1).obsoletes)), (.fn 84 [] [(.fp (.agg [(.fp (indexX st))])), (.fp (.agg [(.int .i64 (id))]))])]) (al' := [(rowOf 5 depX (((nth st.all o).1).obsoletes)), (.fn 84 [] [(.fp (.agg [(.fp (indexX st))])), (.fp (.agg [(.int .i64 (id))]))])]) (h' := []) (r := (.bool ((nth st.all o).1.obsoletes.any fun d => decide (id ∈ (obsR meetsN st d).1)))) (by kernel_rfl) (by exact en_83) (by kernel_rfl) (by kernel_rfl) ((depF_has (nth st.all o).1.obsoletes (.fn 84 [] [(.fp (.agg [(.fp (indexX st))])), (.fp (.agg [(.int .i64 (id))]))]) (fun d => decide (id ∈ (obsR meetsN st d).1)) (by omega) (fun i hj => obsD_fun st hi id _ (hlz.2.2 i hj))).of_args (ImpL.cons Imp.refl (ImpL.cons (Imp.clo (by kernel_rfl)) ImpL.nil))) rfl (by kernel_rfl) ?_
  refine SO_HA 4 [] [5] [] hk0 v0 c0 ?_
  refine SW_ret ?_
  refine RK wR [(.bool ((nth st.all o).1.obsoletes.any fun d => decide (id ∈ (obsR meetsN st d).1)))] ?_
  exact Same.of_eq (by simp only [pack]; rfl)
theorem oddD_fun (st : PoolT) (id : Int) : FunV Tryz.prog (.fn 76 [] [.fp (.agg [(.fp (poolX st))])]) [.int .i64 id] (.bool (oddB st id)) := FunV.of (by exact en_76) (oddD_ok st id)
theorem namedD_fun (st : PoolT) (hi : IdxOk st) (id o : Int) (ho : 0 ≤ o ∧ o < st.all.length) : FunV Tryz.prog (.fn 77 [] [.fp (.agg [(.fp (poolX st))]), .fp (pkgX ((nth st.all id.toNat).1))]) [.int .i64 o] (.bool (sameN st id o)) := by
  obtain ⟨n, rfl⟩ := Int.eq_ofNat_of_zero_le ho.1
  exact FunV.of (by exact en_77) (namedD_ok st hi id n (by omega))
theorem obsByD_fun (st : PoolT) (hi : IdxOk st) (id o : Int) (ho : 0 ≤ o ∧ o < st.all.length) : FunV Tryz.prog (.fn 82 [] [.fp (.agg [(.fp (poolX st))]), .fp (.agg [(.fp (indexX st))]), .fp (.agg [.int .i64 id])]) [.int .i64 o] (.bool (obsBy meetsN st id o)) := by
  obtain ⟨n, rfl⟩ := Int.eq_ofNat_of_zero_le ho.1
  exact FunV.of (by exact en_82) (obsByD_ok st hi id n (by omega))
end Sv
end Go.Proofs.YtlfjokcbkopfeaaGreatDoor
end
