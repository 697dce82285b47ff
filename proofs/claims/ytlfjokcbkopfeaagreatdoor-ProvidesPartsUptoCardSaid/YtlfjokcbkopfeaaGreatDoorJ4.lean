/- The texts Prov1, CompI, Prov2, Prov3, Prov4, Prov5, Prov6, Prov7, Prov8, Evr2, Evr3, Evr4, Evr5, Evr6, Ref7a, PoolP, Awake7, ProvP, SortI, IdsV, SetP of the proof, joined. Each says at its theorems what it proves. -/
import Derived.Test.YtlfjokcbkopfeaaGreatDoorJ3
import Derived.Sort.OwnSortedInts
import Derived.Shelf.Slices.In.SortNone
set_option linter.unusedSimpArgs false
set_option linter.unusedVariables false
section
namespace Go.Proofs.YtlfjokcbkopfeaaGreatDoor
open Go Go.RowKit
namespace Sv
attribute [local irreducible] SW SO holds
theorem en_10 : Enters Tryz.prog 10 := enters_of Tryz.func10 (by kernel_rfl) rfl
theorem en_45 : Enters Tryz.prog 45 := enters_of Tryz.func45 (by kernel_rfl) rfl
structure OfferT where
 id : Int
 own : Bool
 op : Int
 evr : List UInt8
 deriving Inhabited
noncomputable def offX (o : OfferT) : AV := .agg [.int .i64 o.id, .bool o.own, .int .i64 o.op, .str o.evr]
def offL (ps : List (List UInt8 × OfferT)) (s : List UInt8) : List OfferT := (ps.filter fun q => decide (q.1 = s)).map fun q => q.2
noncomputable def offG (ps : List (List UInt8 × OfferT)) (s : List UInt8) : List AV := (offL ps s).map offX
theorem offG_put (ps : List (List UInt8 × OfferT)) (s : List UInt8) (o : OfferT) : updG (offG ps) s (offG ps s ++ [offX o]) = offG (ps ++ [(s, o)]) := by
 funext t
 unfold updG offG offL
 rw [List.filter_append, List.map_append, List.map_append]
 by_cases h : t = s
 ·subst h; rw [if_pos rfl]; simp
 ·rw [if_neg h]
  have : ¬ s = t := fun q => h q.symm
  simp [this]
theorem offG_len (ps : List (List UInt8 × OfferT)) (s : List UInt8) : (offG ps s).length ≤ ps.length := by
 unfold offG offL
 rw [List.length_map, List.length_map]; exact List.length_filter_le _ _
def putsA (i : Nat) (p : PkgT) (j : Nat) : List (List UInt8 × OfferT) := (p.name, ⟨i, true, 2, p.evr⟩) :: (p.provides.take j).map fun d => (d.name, ⟨i, false, d.op, d.evr⟩)
def putsB (i : Nat) (p : PkgT) (j : Nat) : List (List UInt8 × OfferT) := putsA i p p.provides.length ++ (p.files.take j).map fun f => (f, ⟨i, false, 0, []⟩)
def putsOf (i : Nat) (p : PkgT) : List (List UInt8 × OfferT) := putsB i p p.files.length
def putsTo (l : List (PkgT × Int)) (n : Nat) : List (List UInt8 × OfferT) := (List.range n).flatMap fun i => putsOf i (nth l i).1
theorem putsA_next {i : Nat} {p : PkgT} {j : Nat} (h : j < p.provides.length) : putsA i p (j + 1) = putsA i p j ++ [((nth p.provides j).name, ⟨i, false, (nth p.provides j).op, (nth p.provides j).evr⟩)] := by
 unfold putsA
 rw [List.take_add_one, List.getElem?_eq_getElem h, List.map_append]
 simp [nth, h]
theorem putsB_next {i : Nat} {p : PkgT} {j : Nat} (h : j < p.files.length) : putsB i p (j + 1) = putsB i p j ++ [(nth p.files j, ⟨i, false, 0, []⟩)] := by
 unfold putsB
 rw [List.take_add_one, List.getElem?_eq_getElem h, List.map_append, List.append_assoc]
 simp [nth, h]
theorem putsTo_next {l : List (PkgT × Int)} {n : Nat} : putsTo l (n + 1) = putsTo l n ++ putsOf n (nth l n).1 := by
 unfold putsTo
 rw [List.range_succ, List.flatMap_append]; simp
theorem putsA_len {i : Nat} {p : PkgT} {j : Nat} : (putsA i p j).length ≤ 1 + p.provides.length := by
 unfold putsA; simp only [List.length_cons, List.length_map, List.length_take]; omega
theorem putsB_len {i : Nat} {p : PkgT} {j : Nat} : (putsB i p j).length ≤ 1 + p.provides.length + p.files.length := by
 have := putsA_len (i := i) (p := p) (j := p.provides.length)
 unfold putsB; simp only [List.length_append, List.length_map, List.length_take]; omega
theorem putsTo_len {l : List (PkgT × Int)} (hs : ∀ i, i < l.length → (nth l i).1.size ≤ 4194304) : ∀ n, n ≤ l.length → (putsTo l n).length ≤ n * 8388609 := by
 intro n
 induction n with
 | zero => intro _; exact Nat.le_refl _
 | succ n ih =>
  intro h
  have h1 := ih (by omega)
  have h2 := putsB_len (i := n) (p := (nth l n).1) (j := (nth l n).1.files.length)
  have h3 := (nth l n).1.sizes
  have h4 := hs n (by omega)
  have h5 := args_len (nth l n).1.provides
  have h6 := files_len (nth l n).1.files
  have h7 : argsSize (nth l n).1.provides ≤ (nth l n).1.depSize := by unfold PkgT.depSize; omega
  rw [putsTo_next, List.length_append]
  unfold putsOf
  omega
noncomputable def indexX (st : PoolT) : AV := .agg [.int .i64 st.kind, .int .i64 (st.all.length : Int), .smap (.slice none 0 0) (fun s => .row 4 (offG (putsTo st.all st.all.length) s).length (fun i => (offG (putsTo st.all st.all.length) s).getD i junk))]
set_option maxHeartbeats 1000000 in
set_option maxRecDepth 100000 in
theorem put_any (kind count : Int) (ps : List (List UInt8 × OfferT)) (s : List UInt8) (o : OfferT) (hl : (offG ps s).length ≤ 2147483648) :
  CallS Tryz.prog 45 [(.str s), (.agg [(.int .i64 o.id), (.bool o.own), (.int .i64 o.op), (.str o.evr)]), (.ptr 0 0)] [(0, (.row [(.ptr 1 0)] 32)), (1, (.row [(.int .i64 kind), (.int .i64 count), (.map 2)] 80)), (2, (.mm (offG ps) none 84 4))] 3 (.tup []) [(0, (.row [(.ptr 1 0)] 32)), (1, (.row [(.int .i64 kind), (.int .i64 count), (.map 2)] 80)), (2, (.mm (offG (ps ++ [(s, o)])) none 84 4))] := by
 refine CallS_intro [] Tryz.func45 rfl Tryz.ntmps45 rfl rfl (by kernel_rfl) (by kernel_rfl) (by kernel_rfl) (fun B F hF => ?_)
 refine SW_P [] [0, 2, 4] ?_
 refine SW_still 4 (y := ⟨[(0, (.str s)), (2, (.ptr 0 0)), (4, (.fp (.agg [(.int .i64 o.id), (.bool o.own), (.int .i64 o.op), (.str o.evr)])))], [(0, (.row [(.ptr 1 0)] 32)), (1, (.row [(.int .i64 kind), (.int .i64 count), (.map 2)] 80)), (2, (.mm (offG ps) none 84 4))], 4⟩) (by kernel_rfl) ?_
 refine SW_draw (by kernel_rfl) (fun F1 hF1 => ?_)
 refine SG_memo false 1 (lsD 15 [0, 1, 2, 3, 4, 5, 6, 7, 8, 9, 10, 11, 12, 13]) ⟨[(8, (.map 2)), (9, (.str s)), (18, (.own 4))], [(0, (.row [(.ptr 1 0)] 32)), (1, (.row [(.int .i64 kind), (.int .i64 count), (.map 2)] 80)), (2, (.mm (offG ps) (some s) 84 4)), (4, (.grow (((offG ps) s) ++ ([(.agg [(.int .i64 o.id), (.bool o.own), (.int .i64 o.op), (.str o.evr)])] : List AV)) 84 4)), (5, (.row [(.int .i64 o.id), (.bool o.own), (.int .i64 o.op), (.str o.evr)] 84))], 6⟩ ?_ (fun m1_1 => ?_)
 ·refine SG_one (fuel := 0) 14 (by kernel_rfl) ?_
  refine SN_by (fuel := 0) 14 rfl ?_
  refine SO_put (b := 2) (c := 4) (s := s) (s1 := s) (y := ⟨[(8, (.map 2)), (9, (.str s)), (18, (.own 4))], [(0, (.row [(.ptr 1 0)] 32)), (1, (.row [(.int .i64 kind), (.int .i64 count), (.map 2)] 80)), (2, (.mm (updG (offG ps) s (((offG ps) s) ++ ([(.agg [(.int .i64 o.id), (.bool o.own), (.int .i64 o.op), (.str o.evr)])] : List AV))) none 84 4)), (5, (.row [(.int .i64 o.id), (.bool o.own), (.int .i64 o.op), (.str o.evr)] 84))], 6⟩) (by kernel_rfl) (by kernel_rfl) (by kernel_rfl) (by kernel_rfl) (by kernel_rfl) rfl Tryz.underlying78 Tryz.underlying9 (by kernel_rfl) rfl ?_
  refine SO_nil ⟨rfl, ?_⟩
  refine SG_S [] ?_
  refine SG_done (by kernel_rfl) ?_
  refine retS_mk (.inr rfl) (al := []) (by kernel_rfl) ?_ ((by kernel_rfl : cutH 3 _ = some [(0, (.row [(.ptr 1 0)] 32)), (1, (.row [(.int .i64 kind), (.int .i64 count), (.map 2)] 80)), (2, (.mm (updG (offG ps) s (((offG ps) s) ++ ([(.agg [(.int .i64 o.id), (.bool o.own), (.int .i64 o.op), (.str o.evr)])] : List AV))) none 84 4))]).trans ?_)
  ·rfl
  ·rw [show (updG (offG ps) s (((offG ps) s) ++ ([(.agg [(.int .i64 o.id), (.bool o.own), (.int .i64 o.op), (.str o.evr)])] : List AV))) = offG (ps ++ [(s, o)]) from offG_put ps s o] <;> kernel_rfl
 refine SG_memo false 1 (lsD 15 [0, 1, 2, 3, 4, 5, 6, 7, 8, 9, 10, 11, 12, 13]) ⟨[(8, (.map 2)), (9, (.str s)), (18, (.own 5))], [(0, (.row [(.ptr 1 0)] 32)), (1, (.row [(.int .i64 kind), (.int .i64 count), (.map 2)] 80)), (2, (.mm (offG ps) (some s) 84 4)), (4, (.row [(.int .i64 o.id), (.bool o.own), (.int .i64 o.op), (.str o.evr)] 84)), (5, (.grow (((offG ps) s) ++ ([(.agg [(.int .i64 o.id), (.bool o.own), (.int .i64 o.op), (.str o.evr)])] : List AV)) 84 4))], 6⟩ ?_ (fun m1_2 => ?_)
 ·refine SG_one (fuel := 0) 14 (by kernel_rfl) ?_
  refine SN_by (fuel := 0) 14 rfl ?_
  refine SO_put (b := 2) (c := 5) (s := s) (s1 := s) (y := ⟨[(8, (.map 2)), (9, (.str s)), (18, (.own 5))], [(0, (.row [(.ptr 1 0)] 32)), (1, (.row [(.int .i64 kind), (.int .i64 count), (.map 2)] 80)), (2, (.mm (updG (offG ps) s (((offG ps) s) ++ ([(.agg [(.int .i64 o.id), (.bool o.own), (.int .i64 o.op), (.str o.evr)])] : List AV))) none 84 4)), (4, (.row [(.int .i64 o.id), (.bool o.own), (.int .i64 o.op), (.str o.evr)] 84))], 6⟩) (by kernel_rfl) (by kernel_rfl) (by kernel_rfl) (by kernel_rfl) (by kernel_rfl) rfl Tryz.underlying78 Tryz.underlying9 (by kernel_rfl) rfl ?_
  refine SO_nil ⟨rfl, ?_⟩
  refine SG_S [] ?_
  refine SG_done (by kernel_rfl) ?_
  refine retS_mk (.inr rfl) (al := []) (by kernel_rfl) ?_ ((by kernel_rfl : cutH 3 _ = some [(0, (.row [(.ptr 1 0)] 32)), (1, (.row [(.int .i64 kind), (.int .i64 count), (.map 2)] 80)), (2, (.mm (updG (offG ps) s (((offG ps) s) ++ ([(.agg [(.int .i64 o.id), (.bool o.own), (.int .i64 o.op), (.str o.evr)])] : List AV))) none 84 4))]).trans ?_)
  ·rfl
  ·rw [show (updG (offG ps) s (((offG ps) s) ++ ([(.agg [(.int .i64 o.id), (.bool o.own), (.int .i64 o.op), (.str o.evr)])] : List AV))) = offG (ps ++ [(s, o)]) from offG_put ps s o] <;> kernel_rfl
 refine SG_memo false 2 (lsD 15 [0, 1, 2, 3, 4, 5, 6, 7, 8, 9, 10, 11, 12]) ⟨[(8, (.map 2)), (9, (.str s)), (15, (.own 4)), (17, (.sl 5 0 1 1 false))], [(0, (.row [(.ptr 1 0)] 32)), (1, (.row [(.int .i64 kind), (.int .i64 count), (.map 2)] 80)), (2, (.mm (offG ps) (some s) 84 4)), (4, (.grow ((offG ps) s) 84 4)), (5, (.row [(.int .i64 o.id), (.bool o.own), (.int .i64 o.op), (.str o.evr)] 84))], 6⟩ ?_ (fun m1_3 => ?_)
 ·refine SG_I (fuel := 1) 13 [] (hold (p := ((((offG ps) s).length + 1) * 40 ≤ 140737488355328)) (by first | omega | (simp; omega) | (simp; done) | (intros; simp_all; omega) | (intros; simp_all; done))) ?_
  refine SG_S [8, 9, 18] ?_
  exact SG_G m1_1
 refine SG_memo false 2 (lsD 15 [0, 1, 2, 3, 4, 5, 6, 7, 8, 9, 10, 11, 12]) ⟨[(8, (.map 2)), (9, (.str s)), (15, (.own 5)), (17, (.sl 4 0 1 1 false))], [(0, (.row [(.ptr 1 0)] 32)), (1, (.row [(.int .i64 kind), (.int .i64 count), (.map 2)] 80)), (2, (.mm (offG ps) (some s) 84 4)), (4, (.row [(.int .i64 o.id), (.bool o.own), (.int .i64 o.op), (.str o.evr)] 84)), (5, (.grow ((offG ps) s) 84 4))], 6⟩ ?_ (fun m1_4 => ?_)
 ·refine SG_I (fuel := 1) 13 [] (hold (p := ((((offG ps) s).length + 1) * 40 ≤ 140737488355328)) (by first | omega | (simp; omega) | (simp; done) | (intros; simp_all; omega) | (intros; simp_all; done))) ?_
  refine SG_S [8, 9, 18] ?_
  exact SG_G m1_2
 refine SG_memo false 2 (lsD 15 [0, 1, 2, 4, 5, 6, 7, 8, 9, 10, 11, 12, 13]) ⟨[(7, (.ptr 1 2)), (9, (.str s)), (18, (.own 4))], [(0, (.row [(.ptr 1 0)] 32)), (1, (.row [(.int .i64 kind), (.int .i64 count), (.map 2)] 80)), (2, (.mm (offG ps) (some s) 84 4)), (4, (.grow (((offG ps) s) ++ ([(.agg [(.int .i64 o.id), (.bool o.own), (.int .i64 o.op), (.str o.evr)])] : List AV)) 84 4)), (5, (.row [(.int .i64 o.id), (.bool o.own), (.int .i64 o.op), (.str o.evr)] 84))], 6⟩ ?_ (fun m1_5 => ?_)
 ·refine SG_I (fuel := 1) 3 [] hold0 ?_
  refine SG_S [8, 9, 18] ?_
  exact SG_G m1_1
 refine SG_memo false 2 (lsD 15 [0, 1, 2, 4, 5, 6, 7, 8, 9, 10, 11, 12, 13]) ⟨[(7, (.ptr 1 2)), (9, (.str s)), (18, (.own 5))], [(0, (.row [(.ptr 1 0)] 32)), (1, (.row [(.int .i64 kind), (.int .i64 count), (.map 2)] 80)), (2, (.mm (offG ps) (some s) 84 4)), (4, (.row [(.int .i64 o.id), (.bool o.own), (.int .i64 o.op), (.str o.evr)] 84)), (5, (.grow (((offG ps) s) ++ ([(.agg [(.int .i64 o.id), (.bool o.own), (.int .i64 o.op), (.str o.evr)])] : List AV)) 84 4))], 6⟩ ?_ (fun m1_6 => ?_)
 ·refine SG_I (fuel := 1) 3 [] hold0 ?_
  refine SG_S [8, 9, 18] ?_
  exact SG_G m1_2
 refine SG_memo false 3 (lsD 15 [0, 1, 2, 3, 4, 5, 6, 7, 8, 9, 10, 11]) ⟨[(8, (.map 2)), (9, (.str s)), (15, (.own 4)), (16, (.agg [(.int .i64 o.id), (.bool o.own), (.int .i64 o.op), (.str o.evr)]))], [(0, (.row [(.ptr 1 0)] 32)), (1, (.row [(.int .i64 kind), (.int .i64 count), (.map 2)] 80)), (2, (.mm (offG ps) (some s) 84 4)), (4, (.grow ((offG ps) s) 84 4))], 5⟩ ?_ (fun m1_7 => ?_)
 ·refine SG_I (fuel := 2) 12 [] hold0 ?_
  refine SG_S [8, 9, 15, 17] ?_
  exact SG_G m1_3
 refine SG_memo true 3 (lsD 15 [0, 1, 2, 3, 4, 5, 6, 7, 8, 9, 11, 12]) ⟨[(8, (.map 2)), (9, (.str s)), (13, (.map 2)), (14, (.str s)), (17, (.sl 4 0 1 1 false))], [(0, (.row [(.ptr 1 0)] 32)), (1, (.row [(.int .i64 kind), (.int .i64 count), (.map 2)] 80)), (2, (.mm (offG ps) none 84 4)), (4, (.row [(.int .i64 o.id), (.bool o.own), (.int .i64 o.op), (.str o.evr)] 84))], 5⟩ ?_ (fun m1_8 => ?_)
 ·refine SG_one (fuel := 2) 10 (by kernel_rfl) ?_
  refine SN_by (fuel := 2) 10 rfl ?_
  refine SO_take (b := 2) (s := s) (y := ⟨[(8, (.map 2)), (9, (.str s)), (13, (.map 2)), (14, (.str s)), (17, (.sl 4 0 1 1 false)), (15, (.own 5))], [(0, (.row [(.ptr 1 0)] 32)), (1, (.row [(.int .i64 kind), (.int .i64 count), (.map 2)] 80)), (2, (.mm (offG ps) (some s) 84 4)), (4, (.row [(.int .i64 o.id), (.bool o.own), (.int .i64 o.op), (.str o.evr)] 84)), (5, (.grow ((offG ps) s) 84 4))], 6⟩) (by kernel_rfl) (by kernel_rfl) (by kernel_rfl) Tryz.underlying78 Tryz.underlying9 (fun _ => by kernel_rfl) (by kernel_rfl) ?_
  refine SO_nil ⟨rfl, ?_⟩
  refine SG_S [8, 9, 15, 17] ?_
  exact SG_G m1_4
 refine SG_memo false 3 (lsD 15 [0, 1, 2, 4, 5, 6, 7, 8, 9, 10, 11, 12]) ⟨[(7, (.ptr 1 2)), (9, (.str s)), (15, (.own 4)), (17, (.sl 5 0 1 1 false))], [(0, (.row [(.ptr 1 0)] 32)), (1, (.row [(.int .i64 kind), (.int .i64 count), (.map 2)] 80)), (2, (.mm (offG ps) (some s) 84 4)), (4, (.grow ((offG ps) s) 84 4)), (5, (.row [(.int .i64 o.id), (.bool o.own), (.int .i64 o.op), (.str o.evr)] 84))], 6⟩ ?_ (fun m1_9 => ?_)
 ·refine SG_two 3 13 (by kernel_rfl) ?_ ?_
  ·refine SN_I (fuel := 2) 3 [] hold0 ?_
   refine SG_S [8, 9, 15, 17] ?_
   exact SG_G m1_3
  ·refine SN_I (fuel := 2) 13 [] (hold (p := ((((offG ps) s).length + 1) * 40 ≤ 140737488355328)) (by first | omega | (simp; omega) | (simp; done) | (intros; simp_all; omega) | (intros; simp_all; done))) ?_
   refine SG_S [7, 9, 18] ?_
   exact SG_G m1_5
 refine SG_memo false 3 (lsD 15 [0, 1, 2, 4, 5, 6, 7, 8, 9, 10, 11, 12]) ⟨[(7, (.ptr 1 2)), (9, (.str s)), (15, (.own 5)), (17, (.sl 4 0 1 1 false))], [(0, (.row [(.ptr 1 0)] 32)), (1, (.row [(.int .i64 kind), (.int .i64 count), (.map 2)] 80)), (2, (.mm (offG ps) (some s) 84 4)), (4, (.row [(.int .i64 o.id), (.bool o.own), (.int .i64 o.op), (.str o.evr)] 84)), (5, (.grow ((offG ps) s) 84 4))], 6⟩ ?_ (fun m1_10 => ?_)
 ·refine SG_two 3 13 (by kernel_rfl) ?_ ?_
  ·refine SN_I (fuel := 2) 3 [] hold0 ?_
   refine SG_S [8, 9, 15, 17] ?_
   exact SG_G m1_4
  ·refine SN_I (fuel := 2) 13 [] (hold (p := ((((offG ps) s).length + 1) * 40 ≤ 140737488355328)) (by first | omega | (simp; omega) | (simp; done) | (intros; simp_all; omega) | (intros; simp_all; done))) ?_
   refine SG_S [7, 9, 18] ?_
   exact SG_G m1_6
 refine SG_memo true 4 (lsD 15 [0, 1, 2, 3, 4, 5, 6, 7, 8, 9, 11]) ⟨[(8, (.map 2)), (9, (.str s)), (13, (.map 2)), (14, (.str s)), (16, (.agg [(.int .i64 o.id), (.bool o.own), (.int .i64 o.op), (.str o.evr)]))], [(0, (.row [(.ptr 1 0)] 32)), (1, (.row [(.int .i64 kind), (.int .i64 count), (.map 2)] 80)), (2, (.mm (offG ps) none 84 4))], 4⟩ ?_ (fun m1_11 => ?_)
 ·refine SG_two 10 12 (by kernel_rfl) ?_ ?_
  ·refine SN_by (fuel := 3) 10 rfl ?_
   refine SO_take (b := 2) (s := s) (y := ⟨[(8, (.map 2)), (9, (.str s)), (13, (.map 2)), (14, (.str s)), (16, (.agg [(.int .i64 o.id), (.bool o.own), (.int .i64 o.op), (.str o.evr)])), (15, (.own 4))], [(0, (.row [(.ptr 1 0)] 32)), (1, (.row [(.int .i64 kind), (.int .i64 count), (.map 2)] 80)), (2, (.mm (offG ps) (some s) 84 4)), (4, (.grow ((offG ps) s) 84 4))], 5⟩) (by kernel_rfl) (by kernel_rfl) (by kernel_rfl) Tryz.underlying78 Tryz.underlying9 (fun _ => by kernel_rfl) (by kernel_rfl) ?_
   refine SO_nil ⟨rfl, ?_⟩
   refine SG_S [8, 9, 15, 16] ?_
   exact SG_G m1_7
  ·refine SN_I (fuel := 3) 12 [] hold0 ?_
   refine SG_S [8, 9, 13, 14, 17] ?_
   exact SG_G m1_8
 refine SG_memo true 4 (lsD 15 [0, 1, 2, 3, 4, 5, 6, 7, 9, 11, 12]) ⟨[(8, (.map 2)), (9, (.str s)), (12, (.ptr 1 2)), (14, (.str s)), (17, (.sl 4 0 1 1 false))], [(0, (.row [(.ptr 1 0)] 32)), (1, (.row [(.int .i64 kind), (.int .i64 count), (.map 2)] 80)), (2, (.mm (offG ps) none 84 4)), (4, (.row [(.int .i64 o.id), (.bool o.own), (.int .i64 o.op), (.str o.evr)] 84))], 5⟩ ?_ (fun m1_12 => ?_)
 ·refine SG_I (fuel := 3) 8 [] hold0 ?_
  refine SG_S [8, 9, 13, 14, 17] ?_
  exact SG_G m1_8
 refine SG_memo false 4 (lsD 15 [0, 1, 2, 4, 5, 6, 7, 8, 9, 10, 11]) ⟨[(7, (.ptr 1 2)), (9, (.str s)), (15, (.own 4)), (16, (.agg [(.int .i64 o.id), (.bool o.own), (.int .i64 o.op), (.str o.evr)]))], [(0, (.row [(.ptr 1 0)] 32)), (1, (.row [(.int .i64 kind), (.int .i64 count), (.map 2)] 80)), (2, (.mm (offG ps) (some s) 84 4)), (4, (.grow ((offG ps) s) 84 4))], 5⟩ ?_ (fun m1_13 => ?_)
 ·refine SG_two 3 12 (by kernel_rfl) ?_ ?_
  ·refine SN_I (fuel := 3) 3 [] hold0 ?_
   refine SG_S [8, 9, 15, 16] ?_
   exact SG_G m1_7
  ·refine SN_I (fuel := 3) 12 [] hold0 ?_
   refine SG_S [7, 9, 15, 17] ?_
   exact SG_G m1_9
 refine SG_memo true 4 (lsD 15 [0, 1, 2, 4, 5, 6, 7, 8, 9, 11, 12]) ⟨[(7, (.ptr 1 2)), (9, (.str s)), (13, (.map 2)), (14, (.str s)), (17, (.sl 4 0 1 1 false))], [(0, (.row [(.ptr 1 0)] 32)), (1, (.row [(.int .i64 kind), (.int .i64 count), (.map 2)] 80)), (2, (.mm (offG ps) none 84 4)), (4, (.row [(.int .i64 o.id), (.bool o.own), (.int .i64 o.op), (.str o.evr)] 84))], 5⟩ ?_ (fun m1_14 => ?_)
 ·refine SG_two 3 10 (by kernel_rfl) ?_ ?_
  ·refine SN_I (fuel := 3) 3 [] hold0 ?_
   refine SG_S [8, 9, 13, 14, 17] ?_
   exact SG_G m1_8
  ·refine SN_by (fuel := 3) 10 rfl ?_
   refine SO_take (b := 2) (s := s) (y := ⟨[(7, (.ptr 1 2)), (9, (.str s)), (13, (.map 2)), (14, (.str s)), (17, (.sl 4 0 1 1 false)), (15, (.own 5))], [(0, (.row [(.ptr 1 0)] 32)), (1, (.row [(.int .i64 kind), (.int .i64 count), (.map 2)] 80)), (2, (.mm (offG ps) (some s) 84 4)), (4, (.row [(.int .i64 o.id), (.bool o.own), (.int .i64 o.op), (.str o.evr)] 84)), (5, (.grow ((offG ps) s) 84 4))], 6⟩) (by kernel_rfl) (by kernel_rfl) (by kernel_rfl) Tryz.underlying78 Tryz.underlying9 (fun _ => by kernel_rfl) (by kernel_rfl) ?_
   refine SO_nil ⟨rfl, ?_⟩
   refine SG_S [7, 9, 15, 17] ?_
   exact SG_G m1_10
 refine SG_memo true 5 (lsD 15 [0, 1, 2, 3, 4, 5, 6, 7, 9, 11]) ⟨[(8, (.map 2)), (9, (.str s)), (12, (.ptr 1 2)), (14, (.str s)), (16, (.agg [(.int .i64 o.id), (.bool o.own), (.int .i64 o.op), (.str o.evr)]))], [(0, (.row [(.ptr 1 0)] 32)), (1, (.row [(.int .i64 kind), (.int .i64 count), (.map 2)] 80)), (2, (.mm (offG ps) none 84 4))], 4⟩ ?_ (fun m1_15 => ?_)
 ·refine SG_two 8 12 (by kernel_rfl) ?_ ?_
  ·refine SN_I (fuel := 4) 8 [] hold0 ?_
   refine SG_S [8, 9, 13, 14, 16] ?_
   exact SG_G m1_11
  ·refine SN_I (fuel := 4) 12 [] hold0 ?_
   refine SG_S [8, 9, 12, 14, 17] ?_
   exact SG_G m1_12
 refine SG_memo true 5 (lsD 15 [0, 1, 2, 4, 5, 6, 7, 8, 9, 11]) ⟨[(7, (.ptr 1 2)), (9, (.str s)), (13, (.map 2)), (14, (.str s)), (16, (.agg [(.int .i64 o.id), (.bool o.own), (.int .i64 o.op), (.str o.evr)]))], [(0, (.row [(.ptr 1 0)] 32)), (1, (.row [(.int .i64 kind), (.int .i64 count), (.map 2)] 80)), (2, (.mm (offG ps) none 84 4))], 4⟩ ?_ (fun m1_16 => ?_)
 ·refine SG_three 3 10 12 (by kernel_rfl) ?_ ?_ ?_
  ·refine SN_I (fuel := 4) 3 [] hold0 ?_
   refine SG_S [8, 9, 13, 14, 16] ?_
   exact SG_G m1_11
  ·refine SN_by (fuel := 4) 10 rfl ?_
   refine SO_take (b := 2) (s := s) (y := ⟨[(7, (.ptr 1 2)), (9, (.str s)), (13, (.map 2)), (14, (.str s)), (16, (.agg [(.int .i64 o.id), (.bool o.own), (.int .i64 o.op), (.str o.evr)])), (15, (.own 4))], [(0, (.row [(.ptr 1 0)] 32)), (1, (.row [(.int .i64 kind), (.int .i64 count), (.map 2)] 80)), (2, (.mm (offG ps) (some s) 84 4)), (4, (.grow ((offG ps) s) 84 4))], 5⟩) (by kernel_rfl) (by kernel_rfl) (by kernel_rfl) Tryz.underlying78 Tryz.underlying9 (fun _ => by kernel_rfl) (by kernel_rfl) ?_
   refine SO_nil ⟨rfl, ?_⟩
   refine SG_S [7, 9, 15, 16] ?_
   exact SG_G m1_13
  ·refine SN_I (fuel := 4) 12 [] hold0 ?_
   refine SG_S [7, 9, 13, 14, 17] ?_
   exact SG_G m1_14
 refine SG_memo true 5 (lsD 15 [0, 1, 2, 4, 5, 6, 7, 9, 11, 12]) ⟨[(7, (.ptr 1 2)), (9, (.str s)), (12, (.ptr 1 2)), (14, (.str s)), (17, (.sl 4 0 1 1 false))], [(0, (.row [(.ptr 1 0)] 32)), (1, (.row [(.int .i64 kind), (.int .i64 count), (.map 2)] 80)), (2, (.mm (offG ps) none 84 4)), (4, (.row [(.int .i64 o.id), (.bool o.own), (.int .i64 o.op), (.str o.evr)] 84))], 5⟩ ?_ (fun m1_17 => ?_)
 ·refine SG_two 3 8 (by kernel_rfl) ?_ ?_
  ·refine SN_I (fuel := 4) 3 [] hold0 ?_
   refine SG_S [8, 9, 12, 14, 17] ?_
   exact SG_G m1_12
  ·refine SN_I (fuel := 4) 8 [] hold0 ?_
   refine SG_S [7, 9, 13, 14, 17] ?_
   exact SG_G m1_14
 refine SG_memo true 7 (lsD 15 [0, 1, 2, 3, 4, 9, 11, 12]) ⟨[(2, (.ptr 0 0)), (8, (.map 2)), (9, (.str s)), (14, (.str s)), (17, (.sl 4 0 1 1 false))], [(0, (.row [(.ptr 1 0)] 32)), (1, (.row [(.int .i64 kind), (.int .i64 count), (.map 2)] 80)), (2, (.mm (offG ps) none 84 4)), (4, (.row [(.int .i64 o.id), (.bool o.own), (.int .i64 o.op), (.str o.evr)] 84))], 5⟩ ?_ (fun m1_18 => ?_)
 ·refine SG_I (fuel := 6) 5 [] hold0 ?_
  refine SG_F (fuel := 4) [] [6, 7] [8, 9, 12, 14, 17] hold0 ?_
  refine SG_I (fuel := 3) 8 [] hold0 ?_
  refine SG_S [8, 9, 13, 14, 17] ?_
  exact SG_G m1_8
 refine SG_memo true 7 (lsD 15 [0, 1, 2, 4, 5, 9, 11, 12]) ⟨[(7, (.ptr 1 2)), (9, (.str s)), (10, (.ptr 1 0)), (14, (.str s)), (17, (.sl 4 0 1 1 false))], [(0, (.row [(.ptr 1 0)] 32)), (1, (.row [(.int .i64 kind), (.int .i64 count), (.map 2)] 80)), (2, (.mm (offG ps) none 84 4)), (4, (.row [(.int .i64 o.id), (.bool o.own), (.int .i64 o.op), (.str o.evr)] 84))], 5⟩ ?_ (fun m1_19 => ?_)
 ·refine SG_F (fuel := 5) [] [6, 7] [7, 9, 12, 14, 17] hold0 ?_
  refine SG_two 3 8 (by kernel_rfl) ?_ ?_
  ·refine SN_I (fuel := 4) 3 [] hold0 ?_
   refine SG_S [8, 9, 12, 14, 17] ?_
   exact SG_G m1_12
  ·refine SN_I (fuel := 4) 8 [] hold0 ?_
   refine SG_S [7, 9, 13, 14, 17] ?_
   exact SG_G m1_14
 refine SG_memo true 7 (lsD 15 [4, 5, 6, 7, 8, 9, 11, 12]) ⟨[(2, (.ptr 0 0)), (9, (.str s)), (13, (.map 2)), (14, (.str s)), (17, (.sl 4 0 1 1 false))], [(0, (.row [(.ptr 1 0)] 32)), (1, (.row [(.int .i64 kind), (.int .i64 count), (.map 2)] 80)), (2, (.mm (offG ps) none 84 4)), (4, (.row [(.int .i64 o.id), (.bool o.own), (.int .i64 o.op), (.str o.evr)] 84))], 5⟩ ?_ (fun m1_20 => ?_)
 ·refine SG_two 0 10 (by kernel_rfl) ?_ ?_
  ·refine SN_I (fuel := 6) 0 [] hold0 ?_
   refine SG_S [5, 9, 13, 14, 17] ?_
   refine SG_F (fuel := 4) [] [1, 2] [7, 9, 13, 14, 17] hold0 ?_
   refine SG_two 3 10 (by kernel_rfl) ?_ ?_
   ·refine SN_I (fuel := 3) 3 [] hold0 ?_
    refine SG_S [8, 9, 13, 14, 17] ?_
    exact SG_G m1_8
   ·refine SN_by (fuel := 3) 10 rfl ?_
    refine SO_take (b := 2) (s := s) (y := ⟨[(7, (.ptr 1 2)), (9, (.str s)), (13, (.map 2)), (14, (.str s)), (17, (.sl 4 0 1 1 false)), (15, (.own 5))], [(0, (.row [(.ptr 1 0)] 32)), (1, (.row [(.int .i64 kind), (.int .i64 count), (.map 2)] 80)), (2, (.mm (offG ps) (some s) 84 4)), (4, (.row [(.int .i64 o.id), (.bool o.own), (.int .i64 o.op), (.str o.evr)] 84)), (5, (.grow ((offG ps) s) 84 4))], 6⟩) (by kernel_rfl) (by kernel_rfl) (by kernel_rfl) Tryz.underlying78 Tryz.underlying9 (fun _ => by kernel_rfl) (by kernel_rfl) ?_
    refine SO_nil ⟨rfl, ?_⟩
    refine SG_S [7, 9, 15, 17] ?_
    exact SG_G m1_10
  ·refine SN_by (fuel := 6) 10 rfl ?_
   refine SO_take (b := 2) (s := s) (y := ⟨[(2, (.ptr 0 0)), (9, (.str s)), (13, (.map 2)), (14, (.str s)), (17, (.sl 4 0 1 1 false)), (15, (.own 5))], [(0, (.row [(.ptr 1 0)] 32)), (1, (.row [(.int .i64 kind), (.int .i64 count), (.map 2)] 80)), (2, (.mm (offG ps) (some s) 84 4)), (4, (.row [(.int .i64 o.id), (.bool o.own), (.int .i64 o.op), (.str o.evr)] 84)), (5, (.grow ((offG ps) s) 84 4))], 6⟩) (by kernel_rfl) (by kernel_rfl) (by kernel_rfl) Tryz.underlying78 Tryz.underlying9 (fun _ => by kernel_rfl) (by kernel_rfl) ?_
   refine SO_nil ⟨rfl, ?_⟩
   refine SG_S [2, 9, 15, 17] ?_
   refine SG_two 0 13 (by kernel_rfl) ?_ ?_
   ·refine SN_I (fuel := 5) 0 [] hold0 ?_
    refine SG_S [5, 9, 15, 17] ?_
    refine SG_F (fuel := 3) [] [1, 2] [7, 9, 15, 17] hold0 ?_
    refine SG_two 3 13 (by kernel_rfl) ?_ ?_
    ·refine SN_I (fuel := 2) 3 [] hold0 ?_
     refine SG_S [8, 9, 15, 17] ?_
     exact SG_G m1_4
    ·refine SN_I (fuel := 2) 13 [] (hold (p := ((((offG ps) s).length + 1) * 40 ≤ 140737488355328)) (by first | omega | (simp; omega) | (simp; done) | (intros; simp_all; omega) | (intros; simp_all; done))) ?_
     refine SG_S [7, 9, 18] ?_
     exact SG_G m1_6
   ·refine SN_I (fuel := 5) 13 [] (hold (p := ((((offG ps) s).length + 1) * 40 ≤ 140737488355328)) (by first | omega | (simp; omega) | (simp; done) | (intros; simp_all; omega) | (intros; simp_all; done))) ?_
    refine SG_S [2, 9, 18] ?_
    refine SG_I (fuel := 4) 0 [] hold0 ?_
    refine SG_F (fuel := 2) [] [1, 2] [7, 9, 18] hold0 ?_
    refine SG_I (fuel := 1) 3 [] hold0 ?_
    refine SG_S [8, 9, 18] ?_
    exact SG_G m1_2
 refine SG_memo true 7 (lsD 15 [0, 4, 5, 6, 7, 9, 11, 12]) ⟨[(5, (.ptr 1 0)), (9, (.str s)), (12, (.ptr 1 2)), (14, (.str s)), (17, (.sl 4 0 1 1 false))], [(0, (.row [(.ptr 1 0)] 32)), (1, (.row [(.int .i64 kind), (.int .i64 count), (.map 2)] 80)), (2, (.mm (offG ps) none 84 4)), (4, (.row [(.int .i64 o.id), (.bool o.own), (.int .i64 o.op), (.str o.evr)] 84))], 5⟩ ?_ (fun m1_21 => ?_)
 ·refine SG_F (fuel := 5) [] [1, 2] [7, 9, 12, 14, 17] hold0 ?_
  refine SG_two 3 8 (by kernel_rfl) ?_ ?_
  ·refine SN_I (fuel := 4) 3 [] hold0 ?_
   refine SG_S [8, 9, 12, 14, 17] ?_
   exact SG_G m1_12
  ·refine SN_I (fuel := 4) 8 [] hold0 ?_
   refine SG_S [7, 9, 13, 14, 17] ?_
   exact SG_G m1_14
 refine SG_F (fuel := 12) [] [4, 9, 11] [2, 9, 14, 16] hold0 ?_
 refine SG_three 0 5 12 (by kernel_rfl) ?_ ?_ ?_
 ·refine SN_I (fuel := 11) 0 [] hold0 ?_
  refine SG_S [2, 5, 9, 14, 16] ?_
  refine SG_F (fuel := 9) [] [1, 2] [2, 7, 9, 14, 16] hold0 ?_
  refine SG_three 3 5 12 (by kernel_rfl) ?_ ?_ ?_
  ·refine SN_I (fuel := 8) 3 [] hold0 ?_
   refine SG_S [2, 8, 9, 14, 16] ?_
   refine SG_two 5 12 (by kernel_rfl) ?_ ?_
   ·refine SN_I (fuel := 7) 5 [] hold0 ?_
    refine SG_S [8, 9, 10, 14, 16] ?_
    refine SG_F (fuel := 5) [] [6, 7] [8, 9, 12, 14, 16] hold0 ?_
    refine SG_two 8 12 (by kernel_rfl) ?_ ?_
    ·refine SN_I (fuel := 4) 8 [] hold0 ?_
     refine SG_S [8, 9, 13, 14, 16] ?_
     exact SG_G m1_11
    ·refine SN_I (fuel := 4) 12 [] hold0 ?_
     refine SG_S [8, 9, 12, 14, 17] ?_
     exact SG_G m1_12
   ·refine SN_I (fuel := 7) 12 [] hold0 ?_
    refine SG_S [2, 8, 9, 14, 17] ?_
    exact SG_G m1_18
  ·refine SN_I (fuel := 8) 5 [] hold0 ?_
   refine SG_S [7, 9, 10, 14, 16] ?_
   refine SG_F (fuel := 6) [] [6, 7] [7, 9, 12, 14, 16] hold0 ?_
   refine SG_three 3 8 12 (by kernel_rfl) ?_ ?_ ?_
   ·refine SN_I (fuel := 5) 3 [] hold0 ?_
    refine SG_S [8, 9, 12, 14, 16] ?_
    exact SG_G m1_15
   ·refine SN_I (fuel := 5) 8 [] hold0 ?_
    refine SG_S [7, 9, 13, 14, 16] ?_
    exact SG_G m1_16
   ·refine SN_I (fuel := 5) 12 [] hold0 ?_
    refine SG_S [7, 9, 12, 14, 17] ?_
    exact SG_G m1_17
  ·refine SN_I (fuel := 8) 12 [] hold0 ?_
   refine SG_S [2, 7, 9, 14, 17] ?_
   refine SG_two 3 5 (by kernel_rfl) ?_ ?_
   ·refine SN_I (fuel := 7) 3 [] hold0 ?_
    refine SG_S [2, 8, 9, 14, 17] ?_
    exact SG_G m1_18
   ·refine SN_I (fuel := 7) 5 [] hold0 ?_
    refine SG_S [7, 9, 10, 14, 17] ?_
    exact SG_G m1_19
 ·refine SN_I (fuel := 11) 5 [] hold0 ?_
  refine SG_S [2, 9, 10, 14, 16] ?_
  refine SG_F (fuel := 9) [] [6, 7] [2, 9, 12, 14, 16] hold0 ?_
  refine SG_three 0 8 12 (by kernel_rfl) ?_ ?_ ?_
  ·refine SN_I (fuel := 8) 0 [] hold0 ?_
   refine SG_S [5, 9, 12, 14, 16] ?_
   refine SG_F (fuel := 6) [] [1, 2] [7, 9, 12, 14, 16] hold0 ?_
   refine SG_three 3 8 12 (by kernel_rfl) ?_ ?_ ?_
   ·refine SN_I (fuel := 5) 3 [] hold0 ?_
    refine SG_S [8, 9, 12, 14, 16] ?_
    exact SG_G m1_15
   ·refine SN_I (fuel := 5) 8 [] hold0 ?_
    refine SG_S [7, 9, 13, 14, 16] ?_
    exact SG_G m1_16
   ·refine SN_I (fuel := 5) 12 [] hold0 ?_
    refine SG_S [7, 9, 12, 14, 17] ?_
    exact SG_G m1_17
  ·refine SN_I (fuel := 8) 8 [] hold0 ?_
   refine SG_S [2, 9, 13, 14, 16] ?_
   refine SG_three 0 10 12 (by kernel_rfl) ?_ ?_ ?_
   ·refine SN_I (fuel := 7) 0 [] hold0 ?_
    refine SG_S [5, 9, 13, 14, 16] ?_
    refine SG_F (fuel := 5) [] [1, 2] [7, 9, 13, 14, 16] hold0 ?_
    refine SG_three 3 10 12 (by kernel_rfl) ?_ ?_ ?_
    ·refine SN_I (fuel := 4) 3 [] hold0 ?_
     refine SG_S [8, 9, 13, 14, 16] ?_
     exact SG_G m1_11
    ·refine SN_by (fuel := 4) 10 rfl ?_
     refine SO_take (b := 2) (s := s) (y := ⟨[(7, (.ptr 1 2)), (9, (.str s)), (13, (.map 2)), (14, (.str s)), (16, (.agg [(.int .i64 o.id), (.bool o.own), (.int .i64 o.op), (.str o.evr)])), (15, (.own 4))], [(0, (.row [(.ptr 1 0)] 32)), (1, (.row [(.int .i64 kind), (.int .i64 count), (.map 2)] 80)), (2, (.mm (offG ps) (some s) 84 4)), (4, (.grow ((offG ps) s) 84 4))], 5⟩) (by kernel_rfl) (by kernel_rfl) (by kernel_rfl) Tryz.underlying78 Tryz.underlying9 (fun _ => by kernel_rfl) (by kernel_rfl) ?_
     refine SO_nil ⟨rfl, ?_⟩
     refine SG_S [7, 9, 15, 16] ?_
     exact SG_G m1_13
    ·refine SN_I (fuel := 4) 12 [] hold0 ?_
     refine SG_S [7, 9, 13, 14, 17] ?_
     exact SG_G m1_14
   ·refine SN_by (fuel := 7) 10 rfl ?_
    refine SO_take (b := 2) (s := s) (y := ⟨[(2, (.ptr 0 0)), (9, (.str s)), (13, (.map 2)), (14, (.str s)), (16, (.agg [(.int .i64 o.id), (.bool o.own), (.int .i64 o.op), (.str o.evr)])), (15, (.own 4))], [(0, (.row [(.ptr 1 0)] 32)), (1, (.row [(.int .i64 kind), (.int .i64 count), (.map 2)] 80)), (2, (.mm (offG ps) (some s) 84 4)), (4, (.grow ((offG ps) s) 84 4))], 5⟩) (by kernel_rfl) (by kernel_rfl) (by kernel_rfl) Tryz.underlying78 Tryz.underlying9 (fun _ => by kernel_rfl) (by kernel_rfl) ?_
    refine SO_nil ⟨rfl, ?_⟩
    refine SG_S [2, 9, 15, 16] ?_
    refine SG_two 0 12 (by kernel_rfl) ?_ ?_
    ·refine SN_I (fuel := 6) 0 [] hold0 ?_
     refine SG_S [5, 9, 15, 16] ?_
     refine SG_F (fuel := 4) [] [1, 2] [7, 9, 15, 16] hold0 ?_
     refine SG_two 3 12 (by kernel_rfl) ?_ ?_
     ·refine SN_I (fuel := 3) 3 [] hold0 ?_
      refine SG_S [8, 9, 15, 16] ?_
      exact SG_G m1_7
     ·refine SN_I (fuel := 3) 12 [] hold0 ?_
      refine SG_S [7, 9, 15, 17] ?_
      exact SG_G m1_9
    ·refine SN_I (fuel := 6) 12 [] hold0 ?_
     refine SG_S [2, 9, 15, 17] ?_
     refine SG_two 0 13 (by kernel_rfl) ?_ ?_
     ·refine SN_I (fuel := 5) 0 [] hold0 ?_
      refine SG_S [5, 9, 15, 17] ?_
      refine SG_F (fuel := 3) [] [1, 2] [7, 9, 15, 17] hold0 ?_
      refine SG_two 3 13 (by kernel_rfl) ?_ ?_
      ·refine SN_I (fuel := 2) 3 [] hold0 ?_
       refine SG_S [8, 9, 15, 17] ?_
       exact SG_G m1_3
      ·refine SN_I (fuel := 2) 13 [] (hold (p := ((((offG ps) s).length + 1) * 40 ≤ 140737488355328)) (by first | omega | (simp; omega) | (simp; done) | (intros; simp_all; omega) | (intros; simp_all; done))) ?_
       refine SG_S [7, 9, 18] ?_
       exact SG_G m1_5
     ·refine SN_I (fuel := 5) 13 [] (hold (p := ((((offG ps) s).length + 1) * 40 ≤ 140737488355328)) (by first | omega | (simp; omega) | (simp; done) | (intros; simp_all; omega) | (intros; simp_all; done))) ?_
      refine SG_S [2, 9, 18] ?_
      refine SG_I (fuel := 4) 0 [] hold0 ?_
      refine SG_F (fuel := 2) [] [1, 2] [7, 9, 18] hold0 ?_
      refine SG_I (fuel := 1) 3 [] hold0 ?_
      refine SG_S [8, 9, 18] ?_
      exact SG_G m1_1
   ·refine SN_I (fuel := 7) 12 [] hold0 ?_
    refine SG_S [2, 9, 13, 14, 17] ?_
    exact SG_G m1_20
  ·refine SN_I (fuel := 8) 12 [] hold0 ?_
   refine SG_S [2, 9, 12, 14, 17] ?_
   refine SG_two 0 8 (by kernel_rfl) ?_ ?_
   ·refine SN_I (fuel := 7) 0 [] hold0 ?_
    refine SG_S [5, 9, 12, 14, 17] ?_
    exact SG_G m1_21
   ·refine SN_I (fuel := 7) 8 [] hold0 ?_
    refine SG_S [2, 9, 13, 14, 17] ?_
    exact SG_G m1_20
 ·refine SN_I (fuel := 11) 12 [] hold0 ?_
  refine SG_S [2, 9, 14, 17] ?_
  refine SG_two 0 5 (by kernel_rfl) ?_ ?_
  ·refine SN_I (fuel := 10) 0 [] hold0 ?_
   refine SG_S [2, 5, 9, 14, 17] ?_
   refine SG_F (fuel := 8) [] [1, 2] [2, 7, 9, 14, 17] hold0 ?_
   refine SG_two 3 5 (by kernel_rfl) ?_ ?_
   ·refine SN_I (fuel := 7) 3 [] hold0 ?_
    refine SG_S [2, 8, 9, 14, 17] ?_
    exact SG_G m1_18
   ·refine SN_I (fuel := 7) 5 [] hold0 ?_
    refine SG_S [7, 9, 10, 14, 17] ?_
    exact SG_G m1_19
  ·refine SN_I (fuel := 10) 5 [] hold0 ?_
   refine SG_S [2, 9, 10, 14, 17] ?_
   refine SG_F (fuel := 8) [] [6, 7] [2, 9, 12, 14, 17] hold0 ?_
   refine SG_two 0 8 (by kernel_rfl) ?_ ?_
   ·refine SN_I (fuel := 7) 0 [] hold0 ?_
    refine SG_S [5, 9, 12, 14, 17] ?_
    exact SG_G m1_21
   ·refine SN_I (fuel := 7) 8 [] hold0 ?_
    refine SG_S [2, 9, 13, 14, 17] ?_
    exact SG_G m1_20
set_option maxHeartbeats 1000000 in
set_option maxRecDepth 100000 in
theorem provNew_ok (st : PoolT) (hal : st.all.length ≤ 200) (hs : ∀ i, i < st.all.length → (nth st.all i).1.size ≤ 4194304) :
  FnV Tryz.prog 10 [(.fp (poolX st))] (.fp (indexX st)) := by
 refine FnV_intro [.tmp 2] Tryz.func10 rfl Tryz.ntmps10 rfl rfl (fun B F hF => ?_)
 refine SW_P [] [0] ?_
 refine SW_seq ?_
 refine SW_P [] [0, 14] ?_
 refine SW_false (by kernel_rfl) ?_
 refine SW_skip ?_
 refine SW_H [] [0, 3] [] (hk 1 en_42 (Kind_ok st) <| hk 3 en_43 (Len_ok st) <| hk0) v0 c0 ?_
 refine SW_seq ?_
 refine SW_P [] [0, 3, 25, 26] ?_
 refine SW_block ?_
 refine SW_mm 0 84 4 (y := ⟨[(0, (.fp (poolX st))), (3, (.ptr 2 0)), (25, (.int .i64 ((st.all.length : Int)))), (26, (.int .i64 0))], [(0, (.mm (fun _ => []) none 84 4)), (1, (.row [(.int .i64 st.kind), (.int .i64 ((st.all.length : Int))), (.map 0)] 80)), (2, (.row [(.ptr 1 0)] 32))], 3⟩) (by kernel_rfl) ?_
 refine SW_L (fun g y => ∃ (i : Nat), i ≤ st.all.length ∧ y = ⟨[(0, (.fp (poolX st))), (3, (.ptr 2 0)), (25, (.int .i64 ((st.all.length : Int)))), (26, (.int .i64 ((i : Int))))], [(0, (.mm (offG (putsTo st.all i)) none 84 4)), (1, (.row [(.int .i64 st.kind), (.int .i64 ((st.all.length : Int))), (.map 0)] 80)), (2, (.row [(.ptr 1 0)] 32))], 3⟩ ∧ g = st.all.length - i) [0, 3, 25, 26] 3 _ (by omega) ⟨0, (by omega), (by kernel_rfl), rfl⟩ ?_
 rintro g1 y1 ⟨i, f1_1, rfl, rfl⟩
 refine SW_P [] [0, 3, 25, 26, 27] ?_
 refine SW_seq ?_
 refine SW_if (p := (i : Int) < (st.all.length : Int)) (by kernel_rfl) (fun c1 => ?_) (fun c1 => ?_)
 ·have hpl := putsTo_len (l := st.all) hs i (by omega)
  have hsz := (nth st.all i).1.sizes
  have hsi := hs i (by omega)
  have hpv : (nth st.all i).1.provides.length ≤ 4194304 := by have := args_len (nth st.all i).1.provides; unfold PkgT.depSize at hsz; omega
  have hfl : (nth st.all i).1.files.length ≤ 4194304 := by have := files_len (nth st.all i).1.files; omega
  refine SW_skip ?_
  refine SW_seq ?_
  refine SW_block ?_
  refine SW_P [] [0, 3, 4, 25, 26] ?_
  refine SW_H [] [0, 3, 4, 5, 25, 26] [(9, 5)] (hk 2 en_44 (Package_ok st i (by omega) (hs i (by omega))) <| hk0) v0 c0 ?_
  refine SW_P [] [0, 3, 4, 5, 8, 25, 26] ?_
  refine SW_seq ?_
  refine SW_reg ?_
  refine SO_H 7 0 [] [0, 3, 4, 5, 8, 25, 26, 37, 39, 43] [] hk0 v0 c0 ?_
  refine SO_callSv [2, 1, 0] (f := 45) (cap := [(.ptr 2 0)]) (al := [(.str (((nth st.all i).1).name)), (.agg [(.int .i64 ((i : Int))), (.bool true), (.int .i64 2), (.str (((nth st.all i).1).evr))])]) (al' := [(.str (((nth st.all i).1).name)), (.agg [(.int .i64 ((i : Int))), (.bool true), (.int .i64 2), (.str (((nth st.all i).1).evr))]), (.ptr 0 0)]) (r := (.tup [])) (r' := (.tup [])) (s' := [(0, (.fp (poolX st))), (3, (.ptr 2 0)), (4, (.int .i64 ((i : Int)))), (5, (.fp (pkgX ((nth st.all i).1)))), (8, (.fn 45 [] [(.ptr 2 0)])), (25, (.int .i64 ((st.all.length : Int)))), (26, (.int .i64 ((i : Int)))), (37, (.fn 45 [] [(.ptr 2 0)])), (39, (.str (((nth st.all i).1).name))), (43, (.agg [(.int .i64 ((i : Int))), (.bool true), (.int .i64 2), (.str (((nth st.all i).1).evr))])), (44, (.tup []))]) (H := [(0, (.row [(.ptr 1 0)] 32)), (1, (.row [(.int .i64 st.kind), (.int .i64 ((st.all.length : Int))), (.map 2)] 80)), (2, (.mm (offG (putsTo st.all i)) none 84 4))]) (H' := [(0, (.row [(.ptr 1 0)] 32)), (1, (.row [(.int .i64 st.kind), (.int .i64 ((st.all.length : Int))), (.map 2)] 80)), (2, (.mm (offG (putsTo st.all i ++ [((nth st.all i).1.name, (⟨(i : Int), true, 2, (nth st.all i).1.evr⟩ : OfferT))])) none 84 4))]) (h2 := [(0, (.mm (offG (putsTo st.all i ++ [((nth st.all i).1.name, (⟨(i : Int), true, 2, (nth st.all i).1.evr⟩ : OfferT))])) none 84 4)), (1, (.row [(.int .i64 st.kind), (.int .i64 ((st.all.length : Int))), (.map 0)] 80)), (2, (.row [(.ptr 1 0)] 32))]) (by kernel_rfl) (by kernel_rfl) (by exact en_45) (by kernel_rfl) (by kernel_rfl) (by kernel_rfl) (by kernel_rfl) (by kernel_rfl) (put_any st.kind (st.all.length : Int) (putsTo st.all i) ((nth st.all i).1.name) ⟨(i : Int), true, 2, (nth st.all i).1.evr⟩ (Nat.le_trans (offG_len _ _) (by first | (simp only [List.length_append]; have := putsA_len (i := i) (p := (nth st.all i).1) (j := 0); have := putsB_len (i := i) (p := (nth st.all i).1) (j := 0); omega) | omega))) (by kernel_rfl) (by kernel_rfl) (by kernel_rfl) ?_
  refine SO_nil ?_
  refine SW_seq ?_
  refine SW_P [] [0, 3, 4, 5, 8, 25, 26, 46, 47, 48] ?_
  refine SW_block ?_
  refine SW_L (fun g y => ∃ (j : Nat), j ≤ (nth st.all i).1.provides.length ∧ y = ⟨[(0, (.fp (poolX st))), (3, (.ptr 2 0)), (4, (.int .i64 ((i : Int)))), (5, (.fp (pkgX ((nth st.all i).1)))), (8, (.fn 45 [] [(.ptr 2 0)])), (25, (.int .i64 ((st.all.length : Int)))), (26, (.int .i64 ((i : Int)))), (46, (rowOf 5 depX (((nth st.all i).1).provides))), (47, (.int .i64 (((((nth st.all i).1).provides).length : Int)))), (48, (.int .i64 ((j : Int))))], [(0, (.mm (offG (putsTo st.all i ++ putsA i (nth st.all i).1 j)) none 84 4)), (1, (.row [(.int .i64 st.kind), (.int .i64 ((st.all.length : Int))), (.map 0)] 80)), (2, (.row [(.ptr 1 0)] 32))], 4⟩ ∧ g = (nth st.all i).1.provides.length - j) [0, 3, 4, 5, 8, 25, 26, 46, 47, 48] 4 _ (by omega) ⟨0, (by omega), (by kernel_rfl), rfl⟩ ?_
  rintro g2 y2 ⟨j, f2_1, rfl, rfl⟩
  refine SW_P [] [0, 3, 4, 5, 8, 25, 26, 46, 47, 48, 49] ?_
  refine SW_seq ?_
  refine SW_if (p := (j : Int) < ((((nth st.all i).1).provides).length : Int)) (by kernel_rfl) (fun c2 => ?_) (fun c2 => ?_)
  ·refine SW_skip ?_
   refine SW_seq ?_
   refine SW_block ?_
   refine SW_H [] [0, 3, 4, 5, 8, 10, 25, 26, 46, 47, 48] [] hk0 v0 (cc 0 (p := (0 ≤ (j : Int) ∧ j < (((nth st.all i).1).provides).length)) (by first | omega | (simp; omega) | (simp; done) | (intros; simp_all; omega) | (intros; simp_all; done)) <| c0) ?_
   refine SW_reg ?_
   refine SO_H 9 0 [] [0, 3, 4, 5, 8, 25, 26, 46, 47, 48, 52, 54, 60] [(0, 10)] hk0 v0 c0 ?_
   refine SO_callSv [2, 1, 0] (f := 45) (cap := [(.ptr 2 0)]) (al := [(.str ((nth (((nth st.all i).1).provides) j).name)), (.agg [(.int .i64 ((i : Int))), (.bool false), (.int .i64 ((nth (((nth st.all i).1).provides) j).op)), (.str ((nth (((nth st.all i).1).provides) j).evr))])]) (al' := [(.str ((nth (((nth st.all i).1).provides) j).name)), (.agg [(.int .i64 ((i : Int))), (.bool false), (.int .i64 ((nth (((nth st.all i).1).provides) j).op)), (.str ((nth (((nth st.all i).1).provides) j).evr))]), (.ptr 0 0)]) (r := (.tup [])) (r' := (.tup [])) (s' := [(0, (.fp (poolX st))), (3, (.ptr 2 0)), (4, (.int .i64 ((i : Int)))), (5, (.fp (pkgX ((nth st.all i).1)))), (8, (.fn 45 [] [(.ptr 2 0)])), (25, (.int .i64 ((st.all.length : Int)))), (26, (.int .i64 ((i : Int)))), (46, (rowOf 5 depX (((nth st.all i).1).provides))), (47, (.int .i64 (((((nth st.all i).1).provides).length : Int)))), (48, (.int .i64 ((j : Int)))), (52, (.fn 45 [] [(.ptr 2 0)])), (54, (.str ((nth (((nth st.all i).1).provides) j).name))), (60, (.agg [(.int .i64 ((i : Int))), (.bool false), (.int .i64 ((nth (((nth st.all i).1).provides) j).op)), (.str ((nth (((nth st.all i).1).provides) j).evr))])), (61, (.tup []))]) (H := [(0, (.row [(.ptr 1 0)] 32)), (1, (.row [(.int .i64 st.kind), (.int .i64 ((st.all.length : Int))), (.map 2)] 80)), (2, (.mm (offG (putsTo st.all i ++ putsA i (nth st.all i).1 j)) none 84 4))]) (H' := [(0, (.row [(.ptr 1 0)] 32)), (1, (.row [(.int .i64 st.kind), (.int .i64 ((st.all.length : Int))), (.map 2)] 80)), (2, (.mm (offG (putsTo st.all i ++ putsA i (nth st.all i).1 j ++ [((nth (nth st.all i).1.provides j).name, (⟨(i : Int), false, (nth (nth st.all i).1.provides j).op, (nth (nth st.all i).1.provides j).evr⟩ : OfferT))])) none 84 4))]) (h2 := [(0, (.mm (offG (putsTo st.all i ++ putsA i (nth st.all i).1 j ++ [((nth (nth st.all i).1.provides j).name, (⟨(i : Int), false, (nth (nth st.all i).1.provides j).op, (nth (nth st.all i).1.provides j).evr⟩ : OfferT))])) none 84 4)), (1, (.row [(.int .i64 st.kind), (.int .i64 ((st.all.length : Int))), (.map 0)] 80)), (2, (.row [(.ptr 1 0)] 32))]) (by kernel_rfl) (by kernel_rfl) (by exact en_45) (by kernel_rfl) (by kernel_rfl) (by kernel_rfl) (by kernel_rfl) (by kernel_rfl) (put_any st.kind (st.all.length : Int) (putsTo st.all i ++ putsA i (nth st.all i).1 j) ((nth (nth st.all i).1.provides j).name) ⟨(i : Int), false, (nth (nth st.all i).1.provides j).op, (nth (nth st.all i).1.provides j).evr⟩ (Nat.le_trans (offG_len _ _) (by first | (simp only [List.length_append]; have := putsA_len (i := i) (p := (nth st.all i).1) (j := j); have := putsB_len (i := i) (p := (nth st.all i).1) (j := j); omega) | omega))) (by kernel_rfl) (by kernel_rfl) (by kernel_rfl) ?_
   refine SO_nil ?_
   refine SW_reg ?_
   refine SO_HA 0 [] [0, 3, 4, 5, 8, 25, 26, 46, 47, 48] [] hk0 v0 (cc 0 (p := (-9223372036854775808 ≤ (j : Int) + 1 ∧ (j : Int) + 1 ≤ 9223372036854775807)) (by first | omega | (simp; omega) | (simp; done) | (intros; simp_all; omega) | (intros; simp_all; done)) <| c0) ?_
   refine ⟨by kernel_rfl, _, ?_, j + 1, ?_, (Eq.trans (b := (⟨[(0, (.fp (poolX st))), (3, (.ptr 2 0)), (4, (.int .i64 ((i : Int)))), (5, (.fp (pkgX ((nth st.all i).1)))), (8, (.fn 45 [] [(.ptr 2 0)])), (25, (.int .i64 ((st.all.length : Int)))), (26, (.int .i64 ((i : Int)))), (46, (rowOf 5 depX (((nth st.all i).1).provides))), (47, (.int .i64 (((((nth st.all i).1).provides).length : Int)))), (48, (.int .i64 ((j : Int) + 1)))], [(0, (.mm (offG (putsTo st.all i ++ putsA i (nth st.all i).1 j ++ [((nth (nth st.all i).1.provides j).name, (⟨(i : Int), false, (nth (nth st.all i).1.provides j).op, (nth (nth st.all i).1.provides j).evr⟩ : OfferT))])) none 84 4)), (1, (.row [(.int .i64 st.kind), (.int .i64 ((st.all.length : Int))), (.map 0)] 80)), (2, (.row [(.ptr 1 0)] 32))], 4⟩ : St)) (by kernel_rfl) (by rw [putsA_next (by omega), ← List.append_assoc] <;> kernel_rfl)), rfl⟩
   ·omega
   ·omega
  ·refine SW_exit ?_
   refine SW_P [] [0, 3, 4, 8, 25, 26, 64, 65, 66] ?_
   refine SW_block ?_
   refine SW_L (fun g y => ∃ (j : Nat), j ≤ (nth st.all i).1.files.length ∧ y = ⟨[(0, (.fp (poolX st))), (3, (.ptr 2 0)), (4, (.int .i64 ((i : Int)))), (8, (.fn 45 [] [(.ptr 2 0)])), (25, (.int .i64 ((st.all.length : Int)))), (26, (.int .i64 ((i : Int)))), (64, (strs (((nth st.all i).1).files))), (65, (.int .i64 (((((nth st.all i).1).files).length : Int)))), (66, (.int .i64 ((j : Int))))], [(0, (.mm (offG (putsTo st.all i ++ putsB i (nth st.all i).1 j)) none 84 4)), (1, (.row [(.int .i64 st.kind), (.int .i64 ((st.all.length : Int))), (.map 0)] 80)), (2, (.row [(.ptr 1 0)] 32))], 4⟩ ∧ g = (nth st.all i).1.files.length - j) [0, 3, 4, 8, 25, 26, 64, 65, 66] 4 _ (by omega) ⟨0, (by omega), (Eq.trans (b := (⟨[(0, (.fp (poolX st))), (3, (.ptr 2 0)), (4, (.int .i64 ((i : Int)))), (8, (.fn 45 [] [(.ptr 2 0)])), (25, (.int .i64 ((st.all.length : Int)))), (26, (.int .i64 ((i : Int)))), (64, (strs (((nth st.all i).1).files))), (65, (.int .i64 (((((nth st.all i).1).files).length : Int)))), (66, (.int .i64 0))], [(0, (.mm (offG (putsTo st.all i ++ putsA i (nth st.all i).1 j)) none 84 4)), (1, (.row [(.int .i64 st.kind), (.int .i64 ((st.all.length : Int))), (.map 0)] 80)), (2, (.row [(.ptr 1 0)] 32))], 4⟩ : St)) (by kernel_rfl) (by rw [show putsB i (nth st.all i).1 0 = putsA i (nth st.all i).1 (nth st.all i).1.provides.length from by simp [putsB], show (nth st.all i).1.provides.length = j from by omega] <;> kernel_rfl)), rfl⟩ ?_
   rintro g3 y3 ⟨j, f3_1, rfl, rfl⟩
   refine SW_P [] [0, 3, 4, 8, 25, 26, 64, 65, 66, 67] ?_
   refine SW_seq ?_
   refine SW_if (p := (j : Int) < ((((nth st.all i).1).files).length : Int)) (by kernel_rfl) (fun c3 => ?_) (fun c3 => ?_)
   ·refine SW_skip ?_
    refine SW_seq ?_
    refine SW_block ?_
    refine SW_H [] [0, 3, 4, 8, 12, 25, 26, 64, 65, 66] [] hk0 v0 (cc 0 (p := (0 ≤ (j : Int) ∧ j < (((nth st.all i).1).files).length)) (by first | omega | (simp; omega) | (simp; done) | (intros; simp_all; omega) | (intros; simp_all; done)) <| c0) ?_
    refine SW_reg ?_
    refine SO_H 4 0 [] [0, 3, 4, 8, 25, 26, 64, 65, 66, 70, 71, 73] [] hk0 v0 c0 ?_
    refine SO_callSv [2, 1, 0] (f := 45) (cap := [(.ptr 2 0)]) (al := [(.str (nth (((nth st.all i).1).files) j)), (.agg [(.int .i64 ((i : Int))), (.bool false), (.int .i64 0), (.str [])])]) (al' := [(.str (nth (((nth st.all i).1).files) j)), (.agg [(.int .i64 ((i : Int))), (.bool false), (.int .i64 0), (.str [])]), (.ptr 0 0)]) (r := (.tup [])) (r' := (.tup [])) (s' := [(0, (.fp (poolX st))), (3, (.ptr 2 0)), (4, (.int .i64 ((i : Int)))), (8, (.fn 45 [] [(.ptr 2 0)])), (25, (.int .i64 ((st.all.length : Int)))), (26, (.int .i64 ((i : Int)))), (64, (strs (((nth st.all i).1).files))), (65, (.int .i64 (((((nth st.all i).1).files).length : Int)))), (66, (.int .i64 ((j : Int)))), (70, (.fn 45 [] [(.ptr 2 0)])), (71, (.str (nth (((nth st.all i).1).files) j))), (73, (.agg [(.int .i64 ((i : Int))), (.bool false), (.int .i64 0), (.str [])])), (74, (.tup []))]) (H := [(0, (.row [(.ptr 1 0)] 32)), (1, (.row [(.int .i64 st.kind), (.int .i64 ((st.all.length : Int))), (.map 2)] 80)), (2, (.mm (offG (putsTo st.all i ++ putsB i (nth st.all i).1 j)) none 84 4))]) (H' := [(0, (.row [(.ptr 1 0)] 32)), (1, (.row [(.int .i64 st.kind), (.int .i64 ((st.all.length : Int))), (.map 2)] 80)), (2, (.mm (offG (putsTo st.all i ++ putsB i (nth st.all i).1 j ++ [(nth (nth st.all i).1.files j, (⟨(i : Int), false, 0, []⟩ : OfferT))])) none 84 4))]) (h2 := [(0, (.mm (offG (putsTo st.all i ++ putsB i (nth st.all i).1 j ++ [(nth (nth st.all i).1.files j, (⟨(i : Int), false, 0, []⟩ : OfferT))])) none 84 4)), (1, (.row [(.int .i64 st.kind), (.int .i64 ((st.all.length : Int))), (.map 0)] 80)), (2, (.row [(.ptr 1 0)] 32))]) (by kernel_rfl) (by kernel_rfl) (by exact en_45) (by kernel_rfl) (by kernel_rfl) (by kernel_rfl) (by kernel_rfl) (by kernel_rfl) (put_any st.kind (st.all.length : Int) (putsTo st.all i ++ putsB i (nth st.all i).1 j) (nth (nth st.all i).1.files j) ⟨(i : Int), false, 0, []⟩ (Nat.le_trans (offG_len _ _) (by first | (simp only [List.length_append]; have := putsA_len (i := i) (p := (nth st.all i).1) (j := j); have := putsB_len (i := i) (p := (nth st.all i).1) (j := j); omega) | omega))) (by kernel_rfl) (by kernel_rfl) (by kernel_rfl) ?_
    refine SO_nil ?_
    refine SW_reg ?_
    refine SO_HA 0 [] [0, 3, 4, 8, 25, 26, 64, 65, 66] [] hk0 v0 (cc 0 (p := (-9223372036854775808 ≤ (j : Int) + 1 ∧ (j : Int) + 1 ≤ 9223372036854775807)) (by first | omega | (simp; omega) | (simp; done) | (intros; simp_all; omega) | (intros; simp_all; done)) <| c0) ?_
    refine ⟨by kernel_rfl, _, ?_, j + 1, ?_, (Eq.trans (b := (⟨[(0, (.fp (poolX st))), (3, (.ptr 2 0)), (4, (.int .i64 ((i : Int)))), (8, (.fn 45 [] [(.ptr 2 0)])), (25, (.int .i64 ((st.all.length : Int)))), (26, (.int .i64 ((i : Int)))), (64, (strs (((nth st.all i).1).files))), (65, (.int .i64 (((((nth st.all i).1).files).length : Int)))), (66, (.int .i64 ((j : Int) + 1)))], [(0, (.mm (offG (putsTo st.all i ++ putsB i (nth st.all i).1 j ++ [(nth (nth st.all i).1.files j, (⟨(i : Int), false, 0, []⟩ : OfferT))])) none 84 4)), (1, (.row [(.int .i64 st.kind), (.int .i64 ((st.all.length : Int))), (.map 0)] 80)), (2, (.row [(.ptr 1 0)] 32))], 4⟩ : St)) (by kernel_rfl) (by rw [putsB_next (by omega), ← List.append_assoc] <;> kernel_rfl)), rfl⟩
    ·omega
    ·omega
   ·refine SW_exit ?_
    refine SW_reg ?_
    refine SO_HA 0 [] [0, 3, 25, 26] [] hk0 v0 (cc 0 (p := (-9223372036854775808 ≤ (i : Int) + 1 ∧ (i : Int) + 1 ≤ 9223372036854775807)) (by first | omega | (simp; omega) | (simp; done) | (intros; simp_all; omega) | (intros; simp_all; done)) <| c0) ?_
    refine ⟨by kernel_rfl, _, ?_, i + 1, ?_, (Eq.trans (b := (⟨[(0, (.fp (poolX st))), (3, (.ptr 2 0)), (25, (.int .i64 ((st.all.length : Int)))), (26, (.int .i64 ((i : Int) + 1)))], [(0, (.mm (offG (putsTo st.all i ++ putsB i (nth st.all i).1 j)) none 84 4)), (1, (.row [(.int .i64 st.kind), (.int .i64 ((st.all.length : Int))), (.map 0)] 80)), (2, (.row [(.ptr 1 0)] 32))], 3⟩ : St)) (by kernel_rfl) (by rw [putsTo_next, show putsOf i (nth st.all i).1 = putsB i (nth st.all i).1 j from by unfold putsOf; rw [show (nth st.all i).1.files.length = j from by omega]] <;> kernel_rfl)), rfl⟩
    ·omega
    ·omega
 ·refine SW_exit ?_
  refine SW_seq ?_
  refine SW_reg ?_
  refine SO_stillC 1 2 (y := ⟨[(0, (.fp (poolX st))), (3, (.ptr 2 0)), (25, (.int .i64 ((st.all.length : Int)))), (26, (.int .i64 ((i : Int)))), (27, (.bool (decide ((i : Int) < (st.all.length : Int)))))], [(1, (.row [(.int .i64 st.kind), (.int .i64 ((st.all.length : Int))), (.smap (.slice none 0 0) (fun kq => .row 4 ((offG (putsTo st.all i)) kq).length (fun ix => ((offG (putsTo st.all i)) kq).getD ix junk)))] 80)), (2, (.row [(.ptr 1 0)] 32))], 3⟩) (by kernel_rfl) ?_
  refine SO_P [] [2] ?_
  refine SW_ret ?_
  refine RK wR [(.fp (.agg [(.int .i64 st.kind), (.int .i64 ((st.all.length : Int))), (.smap (.slice none 0 0) (fun kq => .row 4 ((offG (putsTo st.all i)) kq).length (fun ix => ((offG (putsTo st.all i)) kq).getD ix junk)))]))] ?_
  rw [show i = st.all.length from by omega]
  exact Same.of_eq rfl
end Sv
end Go.Proofs.YtlfjokcbkopfeaaGreatDoor
end
section
namespace Go.Proofs.YtlfjokcbkopfeaaGreatDoor
open Go Go.RowKit
set_option linter.unusedSimpArgs false
set_option linter.unusedVariables false
namespace Sv
theorem ints_vals {φ : Phi} : ∀ {l : List Int} {vs : List Value}, VRl φ (l.map (AV.int .i64)) vs → vs = l.map (Value.int .i64)
  | [], vs, h => h.nil_inv
  | x :: l, vs, h => by
    obtain ⟨v, vs', rfl, h1, h2⟩ := h.cons_inv
    simp only [VR] at h1
    rw [ints_vals h2, h1]; rfl
theorem vals_ints {φ : Phi} : ∀ l : List Int, VRl φ (l.map (AV.int .i64)) (l.map (Value.int .i64))
  | [] => .nil
  | x :: l => .cons (by simp only [VR]) (vals_ints l)
theorem flat_ints (l : List Int) : (l.map (Value.int .i64)).flatMap (fun u => u.cells.toList) = l.map (Value.int .i64) := by
  induction l with
  | nil => rfl
  | cons x l ih => rw [List.map_cons, List.flatMap_cons, ih]; first | done | rfl
theorem cells_ints (l : List Int) : ∀ u ∈ l.map (Value.int .i64), u.cells.size = 1 ∧ ∀ c ∈ u.cells.toList, c.oneCell' = true := by
  intro u hu
  obtain ⟨x, _, rfl⟩ := List.mem_map.1 hu
  exact ⟨rfl, fun c hc => by simp [Value.cells] at hc; subst hc; rfl⟩
theorem Rel.rebaseI {B : Bas} {φ : Phi} {h : AH} {w : World} (r : Rel B φ h w) : Rel (basH φ h w) φ h w :=
  ⟨⟨rfl, rfl, rfl, Nat.le_refl _, fun _ _ => rfl⟩, r.fro, fun b o e => by have := r.obj b o e; cases o <;> exact this, r.sep, fun b o k e i => ⟨fun q => q.2 b o e i, (r.gf b o k e i).2⟩⟩
theorem compactI_le (zs : List Int) : (Lib.compact zs).length ≤ zs.length := by
  have : ∀ m, (Lib.compactUpTo zs.toArray m).length ≤ m := by
    intro m
    induction m with
    | zero => simp [Lib.compactUpTo]
    | succ m ih =>
      rw [Lib.compactUpTo_succ, List.length_append]
      split <;> simp <;> omega
  exact this _
theorem compactI_any (l : List Int) (hl : l.length ≤ 4611686018427) :
    CallS Tryz.prog 118 [.own 0] [(0, .grow (l.map (AV.int .i64)) 3 1)] 1 (.own 0) [(0, .grow ((Lib.compact l).map (AV.int .i64)) 3 1)] := by
  intro B0 φ w vs r hv
  obtain ⟨v, rfl, hv1⟩ := hv.single_inv
  simp only [VR] at hv1
  obtain ⟨v0, us, q1, q2, q3, q4⟩ := r.obj 0 _ rfl
  rw [hv1.1] at q1; cases q1
  have hu := ints_vals q3
  subst hu
  rw [flat_ints, List.length_map] at q2
  have hr := r.rebaseI
  rcases q2.2 with ⟨rfl, hn⟩ | ⟨g, cap, cur, rfl, hg1, hg2, hg3, hg4, hg5, hg6⟩
  · have hl0 : l = [] := List.length_eq_zero_iff.1 hn
    subst hl0
    refine (Tryz.slices_Compact_int_empty none 0 w).mono ?_
    rintro e w' ⟨he, rfl⟩
    exact ⟨_, he, φ, hr, by simp only [VR]; exact hv1, fun _ _ _ e => e, fun _ _ e => e, fun _ _ e => .inl e⟩
  · have hh : Go.Sort.Holds (Value.int .i64) w g 0 l.toArray := holds_of_blockI hg2 (by simpa using hg6)
    refine (Tryz.slices_Compact_int g 0 cap l w hh (by omega) hg3).mono ?_
    rintro e w' ⟨he, n, rfl⟩
    have hgr := grownBy_sortedI (w := w) (g := g) (n := n) (os := #[]) (Lib.compact l ++ List.replicate (l.length - (Lib.compact l).length) 0).toArray
    rw [Go.Sort.grow_empty] at hgr
    have hle := compactI_le l
    have hts : (Lib.compact l ++ List.replicate (l.length - (Lib.compact l).length) (0 : Int)).length = l.length := by simp; omega
    have ho := ownsRow_sortedI (n := n) (os := #[]) (base := 0) (ts := Lib.compact l ++ List.replicate (l.length - (Lib.compact l).length) 0) (ss := l) hts hg1 hg2 hg3 hg4 (by simpa using hg5)
    rw [Go.Sort.grow_empty] at ho
    refine ⟨_, he, ⟨φ.m, fun i => if i = 0 then some (.slice (some ⟨g, 0, none⟩) (Lib.compact l).length cap) else φ.s i, φ.f⟩, ?_, by simp only [VR]; exact ⟨rfl, _, _, _, rfl⟩, fun _ _ _ e => e, fun _ _ e => e, fun _ _ e => .inl e⟩
    have ht : Turn φ ⟨φ.m, fun i => if i = 0 then some (.slice (some ⟨g, 0, none⟩) (Lib.compact l).length cap) else φ.s i, φ.f⟩ 0 := ⟨fun _ => rfl, fun c hc => if_neg hc, fun _ _ e => e⟩
    refine Rel.grown (v' := .slice (some ⟨g, 0, none⟩) (Lib.compact l).length cap) (es' := (Lib.compact l).map (AV.int .i64)) hr (b := 0) rfl hv1.1 ht rfl rfl hgr (.inl rfl) (fun k hk => by cases hk; exact Nat.lt_of_lt_of_le (block_lt hg2) hgr.size) ⟨_, (Lib.compact l).map (Value.int .i64), rfl, ?_, vals_ints _, cells_ints _⟩
    rw [flat_ints, List.length_map]
    refine ⟨by simp, .inr ⟨g, cap, Go.Sort.putCells (Value.int .i64) 0 (Lib.compact l ++ List.replicate (l.length - (Lib.compact l).length) 0).toArray cur, rfl, hg1, ?_, by omega, hg4, by simp [Go.Sort.putCells, hg5], ?_⟩⟩
    · have := heap_sortedI (w := w) (g := g) (n := n) (os := #[]) (Lib.compact l ++ List.replicate (l.length - (Lib.compact l).length) 0).toArray hg2
      rw [Go.Sort.grow_empty] at this; exact this
    · have := take_putCellsI cur (Lib.compact l ++ List.replicate (l.length - (Lib.compact l).length) 0) (by rw [hts, hg5]; omega)
      have := congrArg (List.take (Lib.compact l).length) this
      rw [List.take_take, Nat.min_eq_left (by rw [hts]; exact hle), List.map_append, List.take_append_of_le_length (by simp), List.take_of_length_le (l := (Lib.compact l).map (Value.int .i64)) (by simp)] at this
      rw [Nat.mul_one]; exact this
end Sv
end Go.Proofs.YtlfjokcbkopfeaaGreatDoor
end
section
namespace Go.Proofs.YtlfjokcbkopfeaaGreatDoor
open Go Go.RowKit
namespace Sv
attribute [local irreducible] SW SO holds
theorem en_117 : Enters Tryz.prog 117 := enters_of Tryz.func117 (by kernel_rfl) rfl
theorem en_57 : Enters Tryz.prog 57 := enters_of Tryz.func57 (by kernel_rfl) rfl
theorem en_119 : Enters Tryz.prog 119 := enters_of Tryz.func119 (by kernel_rfl) rfl
theorem en_59 : Enters Tryz.prog 59 := enters_of Tryz.func59 (by kernel_rfl) rfl
theorem en_118 : Enters Tryz.prog 118 := enters_of Tryz.func118 (by kernel_rfl) rfl
theorem en_159 : Enters Tryz.prog 159 := enters_of Tryz.func159 (by kernel_rfl) rfl
theorem en_128 : Enters Tryz.prog 128 := enters_of Tryz.func128 (by kernel_rfl) rfl
theorem en_78 : Enters Tryz.prog 78 := enters_of Tryz.func78 (by kernel_rfl) rfl
theorem off_imp (ps : List (List UInt8 × OfferT)) (s : List UInt8) : Imp (.row 4 (offG ps s).length (fun i => (offG ps s).getD i junk)) (rowOf 4 offX (offL ps s)) := Imp.list (f := offX) (List.length_map _)
def MeetsOk (m : Int → Int → List UInt8 → Int → List UInt8 → Bool × Int) : Prop := ∀ k op a o b, a.length ≤ 4194304 → b.length ≤ 4194304 → FnV Tryz.prog 159 [.int .i64 k, .int .i64 op, .str a, .int .i64 o, .str b] (.tup [.bool (m k op a o b).1, .int .i64 (m k op a o b).2])
def fitsB (m : Int → Int → List UInt8 → Int → List UInt8 → Bool × Int) (k : Int) (d : DepT) (o : OfferT) : Bool := if d.op = 0 ∨ o.op = 0 then decide (d.op = 0) else (m k d.op d.evr o.op o.evr).1
def IdxOk (st : PoolT) : Prop := st.all.length ≤ 200 ∧ ∀ i, i < st.all.length → (nth st.all i).1.size ≤ 4194304
theorem IdxOk.len {st : PoolT} (h : IdxOk st) (s : List UInt8) : (offL (putsTo st.all st.all.length) s).length ≤ 2147483648 := by
 have h1 := putsTo_len h.2 st.all.length (Nat.le_refl _)
 have h2 := offG_len (putsTo st.all st.all.length) s
 have h3 : (offG (putsTo st.all st.all.length) s).length = (offL (putsTo st.all st.all.length) s).length := List.length_map _
 have := h.1
 omega
theorem nth_at {α : Type} [Inhabited α] {l : List α} {j : Nat} (h : j < l.length) : nth l j = l[j] := by simp [nth, h]
theorem puts_evr {st : PoolT} (h : IdxOk st) {q : List UInt8 × OfferT} (hq : q ∈ putsTo st.all st.all.length) : q.2.evr.length ≤ 4194304 := by
 unfold putsTo at hq
 obtain ⟨i, hi, hq⟩ := List.mem_flatMap.1 hq
 have hi : i < st.all.length := by simpa using hi
 have h1 := h.2 i hi
 have h2 := (nth st.all i).1.sizes
 unfold putsOf putsB putsA at hq
 simp only [List.take_length, List.cons_append, List.mem_cons, List.mem_append, List.mem_map] at hq
 rcases hq with rfl | ⟨d, hd, rfl⟩ | ⟨x, hx, rfl⟩
 ·show (nth st.all i).1.evr.length ≤ _; omega
 ·obtain ⟨j, hj, rfl⟩ := List.getElem_of_mem hd
  have h3 := argsSize_nth (l := (nth st.all i).1.provides) (i := j) hj
  have h4 := size_args (nth (nth st.all i).1.provides j)
  have h5 : argsSize (nth st.all i).1.provides ≤ (nth st.all i).1.depSize := by unfold PkgT.depSize; omega
  have h6 : nth (nth st.all i).1.provides j = (nth st.all i).1.provides[j] := nth_at hj
  rw [h6] at h3 h4
  show (nth st.all i).1.provides[j].evr.length ≤ _
  omega
 ·exact Nat.zero_le _
theorem IdxOk.evr {st : PoolT} (h : IdxOk st) {s : List UInt8} {i : Nat} (hi : i < (offL (putsTo st.all st.all.length) s).length) : (nth (offL (putsTo st.all st.all.length) s) i).evr.length ≤ 4194304 := by
 have hm : nth (offL (putsTo st.all st.all.length) s) i ∈ offL (putsTo st.all st.all.length) s := by
  have : nth (offL (putsTo st.all st.all.length) s) i = (offL (putsTo st.all st.all.length) s)[i] := by simp [nth, hi]
  rw [this]; exact List.getElem_mem hi
 obtain ⟨q, hq, e⟩ := List.mem_map.1 hm
 rw [← e]; exact puts_evr h (List.mem_filter.1 hq).1
def hitB (m : Int → Int → List UInt8 → Int → List UInt8 → Bool × Int) (st : PoolT) (d : DepT) (own : Bool) (o : OfferT) : Bool := (o.own || !own) && fitsB m st.kind d o
def hitsTo (m : Int → Int → List UInt8 → Int → List UInt8 → Bool × Int) (st : PoolT) (d : DepT) (own : Bool) (i : Nat) : List Int := (((offL (putsTo st.all st.all.length) d.name).take i).filter (hitB m st d own)).map fun o => o.id
def namedL (m : Int → Int → List UInt8 → Int → List UInt8 → Bool × Int) (st : PoolT) (d : DepT) (own : Bool) : List Int := Lib.compact (hitsTo m st d own (offL (putsTo st.all st.all.length) d.name).length)
theorem hitsTo_next {m : Int → Int → List UInt8 → Int → List UInt8 → Bool × Int} {st : PoolT} {d : DepT} {own : Bool} {i : Nat} (h : i < (offL (putsTo st.all st.all.length) d.name).length) : hitsTo m st d own (i + 1) = hitsTo m st d own i ++ (if hitB m st d own (nth (offL (putsTo st.all st.all.length) d.name) i) = true then [(nth (offL (putsTo st.all st.all.length) d.name) i).id] else []) := by
 unfold hitsTo
 rw [List.take_add_one, List.getElem?_eq_getElem h, List.filter_append, List.map_append]
 congr 1
 have : nth (offL (putsTo st.all st.all.length) d.name) i = (offL (putsTo st.all st.all.length) d.name)[i] := by simp [nth, h]
 rw [this]
 cases hc : hitB m st d own (offL (putsTo st.all st.all.length) d.name)[i] <;> simp [hc]
theorem hitsTo_len {m : Int → Int → List UInt8 → Int → List UInt8 → Bool × Int} {st : PoolT} {d : DepT} {own : Bool} {i : Nat} : (hitsTo m st d own i).length ≤ (offL (putsTo st.all st.all.length) d.name).length := by
 unfold hitsTo
 rw [List.length_map]
 exact Nat.le_trans (List.length_filter_le _ _) (by simp; omega)
theorem hits_yes {m : Int → Int → List UInt8 → Int → List UInt8 → Bool × Int} {st : PoolT} {d : DepT} {own : Bool} {i : Nat} (h : i < (offL (putsTo st.all st.all.length) d.name).length) (hc : hitB m st d own (nth (offL (putsTo st.all st.all.length) d.name) i) = true) : (hitsTo m st d own (i + 1)).map (AV.int .i64) = (hitsTo m st d own i).map (AV.int .i64) ++ [.int .i64 (nth (offL (putsTo st.all st.all.length) d.name) i).id] := by
 rw [hitsTo_next h, if_pos hc, List.map_append]; rfl
theorem hits_no {m : Int → Int → List UInt8 → Int → List UInt8 → Bool × Int} {st : PoolT} {d : DepT} {own : Bool} {i : Nat} (h : i < (offL (putsTo st.all st.all.length) d.name).length) (hc : hitB m st d own (nth (offL (putsTo st.all st.all.length) d.name) i) = false) : hitsTo m st d own (i + 1) = hitsTo m st d own i := by
 rw [hitsTo_next h, if_neg (by rw [hc]; simp), List.append_nil]
set_option maxHeartbeats 400000 in
set_option maxRecDepth 100000 in
theorem intF_idx (l : List Int) (a : AV) (p : Int → Bool) (hl : l.length ≤ 4611686018427387904) (ha : ∀ i, i < l.length → FunV Tryz.prog a [(.int .i64 (nth l i))] (.bool (p (nth l i)))) :
  FnV Tryz.prog 119 [(nums l), (.clo a)] (.int .i64 (idxF p l)) := by
 refine FnV_intro [.tmp 4] Tryz.func119 rfl Tryz.ntmps119 rfl rfl (fun B F hF => ?_)
 refine SW_P [] [0, 1] ?_
 refine SW_seq ?_
 refine SW_P [] [0, 1, 7, 8] ?_
 refine SW_block ?_
 refine SW_L (fun g y => ∃ (i : Nat), i ≤ l.length ∧ (∀ j, j < i → p (nth l j) = false) ∧ y = ⟨[(0, (nums l)), (1, (.clo a)), (7, (.int .i64 ((l.length : Int)))), (8, (.int .i64 ((i : Int))))], [], 0⟩ ∧ g = l.length - i) [0, 1, 7, 8] 0 _ (by omega) ⟨0, (by omega), (by exact fun j hj => by omega), (by kernel_rfl), rfl⟩ ?_
 rintro g1 y1 ⟨i, f1_1, f1_2, rfl, rfl⟩
 refine SW_P [] [0, 1, 7, 8, 9] ?_
 refine SW_seq ?_
 refine SW_if (p := (i : Int) < (l.length : Int)) (by kernel_rfl) (fun c1 => ?_) (fun c1 => ?_)
 ·refine SW_skip ?_
  refine SW_seq ?_
  refine SW_block ?_
  refine SW_P [] [0, 1, 5, 7, 8] ?_
  refine SW_seq ?_
  refine SW_reg ?_
  refine SO_H 5 0 [] [0, 1, 5, 7, 8, 11, 15] [] hk0 v0 (cc 3 (p := (0 ≤ (i : Int) ∧ i < l.length)) (by first | omega | (simp; omega) | (simp; done) | (intros; simp_all; omega) | (intros; simp_all; done)) <| c0) ?_
  refine SO_callA (s' := [(0, (nums l)), (1, (.clo a)), (5, (.int .i64 ((i : Int)))), (7, (.int .i64 ((l.length : Int)))), (8, (.int .i64 ((i : Int)))), (11, (.clo a)), (15, (.int .i64 (nth l i))), (16, (.bool (p (nth l i))))]) (a := (.clo a)) (al := [(.int .i64 (nth l i))]) (r := (.bool (p (nth l i)))) (by kernel_rfl) (by kernel_rfl) (by kernel_rfl) (by kernel_rfl) (by kernel_rfl) ((ha i (by omega)).clo) (by kernel_rfl) ?_
  refine SO_nil ?_
  refine SW_cond (q := p (nth l i)) (by kernel_rfl) (fun c2 => ?_) (fun c2 => ?_)
  ·try simp only [Bool.and_eq_true, Bool.or_eq_true, Bool.and_eq_false_iff, Bool.or_eq_false_iff, Bool.not_eq_true', Bool.not_eq_false', decide_eq_true_eq, decide_eq_false_iff_not] at c2
   refine SW_P [] [4] ?_
   refine SW_ret ?_
   refine RK wR [(.int .i64 ((i : Int)))] ?_
   exact Same.of_eq (by rw [idxF_at (by omega) f1_2 (by simp_all)]; rfl)
  ·try simp only [Bool.and_eq_true, Bool.or_eq_true, Bool.and_eq_false_iff, Bool.or_eq_false_iff, Bool.not_eq_true', Bool.not_eq_false', decide_eq_true_eq, decide_eq_false_iff_not] at c2
   refine SW_skip ?_
   refine SW_reg ?_
   refine SO_HA 0 [] [0, 1, 7, 8] [] hk0 v0 (cc 0 (p := (-9223372036854775808 ≤ (i : Int) + 1 ∧ (i : Int) + 1 ≤ 9223372036854775807)) (by first | omega | (simp; omega) | (simp; done) | (intros; simp_all; omega) | (intros; simp_all; done)) <| c0) ?_
   refine ⟨by kernel_rfl, _, ?_, i + 1, ?_, ?_, (by kernel_rfl), rfl⟩
   ·omega
   ·omega
   ·intro j hj
    by_cases h : j = i
    ·subst h; simp_all
    ·exact f1_2 j (by omega)
 ·refine SW_exit ?_
  refine SW_P [] [4] ?_
  refine SW_ret ?_
  refine RK wR [(.int .i64 (-1))] ?_
  exact Same.of_eq (by rw [idxF_no (fun j hj => f1_2 j (by omega))]; rfl)
set_option maxHeartbeats 400000 in
set_option maxRecDepth 100000 in
theorem intF_has (l : List Int) (a : AV) (p : Int → Bool) (hl : l.length ≤ 4611686018427387904) (ha : ∀ i, i < l.length → FunV Tryz.prog a [(.int .i64 (nth l i))] (.bool (p (nth l i)))) :
  FnV Tryz.prog 59 [(nums l), (.clo a)] (.bool (l.any p)) := by
 refine FnV_intro [.tmp 4] Tryz.func59 rfl Tryz.ntmps59 rfl rfl (fun B F hF => ?_)
 refine SW_P [] [0, 1] ?_
 refine SW_H [] [4] [] (hk 2 en_119 (intF_idx l a p hl ha) <| hk0) v0 c0 ?_
 refine SW_ret ?_
 refine RK wR [(.bool (decide (0 ≤ (idxF p l))))] ?_
 exact Same.of_eq (by simp only [pack]; rw [idxF_any])
set_option maxHeartbeats 400000 in
set_option maxRecDepth 100000 in
theorem fits_ok (m : Int → Int → List UInt8 → Int → List UInt8 → Bool × Int) (hM : MeetsOk m) (st : PoolT) (d : DepT) (o : OfferT) (hd : d.size ≤ 4194304) (ho : o.evr.length ≤ 4194304) :
  FnV Tryz.prog 117 [(.fp (indexX st)), (.agg [(.int .i64 d.kind), (.str d.name), (.int .i64 d.op), (.str d.evr), (.row 5 d.args.length (depAt d.args))]), (.agg [(.int .i64 o.id), (.bool o.own), (.int .i64 o.op), (.str o.evr)])] (.bool (fitsB m st.kind d o)) := by
 have hda := size_args d
 refine FnV_intro [.tmp 6] Tryz.func117 rfl Tryz.ntmps117 rfl rfl (fun B F hF => ?_)
 refine SW_H [] [0, 4, 5] [(1, 4), (2, 5)] hk0 v0 c0 ?_
 refine SW_seq ?_
 obtain ⟨b1, hb1⟩ : ∃ b, b = (decide (d.op = 0)) := ⟨_, rfl⟩
 refine SW_H (CS := [(5, ((!b1) = true → (!b1) = true)), (6, ((!b1) = true → (!b1) = true)), (7, (b1 = false → (!b1) = true))]) [13, 14, 15] [0, 4, 5, 16] [] hk0 (vk 4 12 (a := .bool (decide (d.op = 0))) (b := .bool b1) (Imp.of_eq (by rw [hb1])) <| v0) (by refine cc _ ?_ <| cc _ ?_ <| cc _ ?_ c0 <;> first | omega | (simp; omega) | (simp; done) | (intros; simp_all; omega) | (intros; simp_all; done)) ?_
 refine SW_cond (q := b1 || (decide (o.op = 0))) (by kernel_rfl) (fun c1 => ?_) (fun c1 => ?_)
 ·subst hb1
  try simp only [Bool.and_eq_true, Bool.or_eq_true, Bool.and_eq_false_iff, Bool.or_eq_false_iff, Bool.not_eq_true', Bool.not_eq_false', decide_eq_true_eq, decide_eq_false_iff_not] at c1
  refine SW_P [] [6] ?_
  refine SW_ret ?_
  refine RK wR [(.bool (decide (d.op = 0)))] ?_
  exact Same.of_eq (by simp only [pack]; unfold fitsB; rw [if_pos (by simpa using c1)])
 ·subst hb1
  try simp only [Bool.and_eq_true, Bool.or_eq_true, Bool.and_eq_false_iff, Bool.or_eq_false_iff, Bool.not_eq_true', Bool.not_eq_false', decide_eq_true_eq, decide_eq_false_iff_not] at c1
  refine SW_skip ?_
  refine SW_D [] [7] [] (hk 12 en_159 (hM st.kind d.op d.evr o.op o.evr (by omega) ho) <| hk0) v0 c0 ?_
  refine SW_P [] [6] ?_
  refine SW_ret ?_
  refine RK wR [(.bool ((m st.kind d.op d.evr o.op o.evr).1))] ?_
  exact Same.of_eq (by simp only [pack]; unfold fitsB; rw [if_neg (by simpa using c1)])
set_option maxHeartbeats 1000000 in
set_option maxRecDepth 100000 in
theorem named_ok (m : Int → Int → List UInt8 → Int → List UInt8 → Bool × Int) (hM : MeetsOk m) (st : PoolT) (hi : IdxOk st) (d : DepT) (own : Bool) (hd : d.size ≤ 4194304) :
  FnV Tryz.prog 57 [(.fp (indexX st)), (.agg [(.int .i64 d.kind), (.str d.name), (.int .i64 d.op), (.str d.evr), (.row 5 d.args.length (depAt d.args))]), (.bool own)] (nums (namedL m st d own)) := by
 have hlg : (offG (putsTo st.all st.all.length) d.name).length = (offL (putsTo st.all st.all.length) d.name).length := List.length_map _
 have hll := hi.len d.name
 refine FnV_intro [.tmp 6] Tryz.func57 rfl Tryz.ntmps57 rfl rfl (fun B F hF => ?_)
 refine SW_H [] [0, 2, 4] [(1, 4)] hk0 v0 c0 ?_
 refine SW_P [] [0, 2, 4, 7] ?_
 refine SW_seq ?_
 refine SW_seq ?_
 refine SW_draw (by kernel_rfl) (fun F1 hF1 => ?_)
 refine SG_F (fuel := 2) [] [0, 1, 2, 3, 4, 5, 8] [0, 2, 4, 7, 13, 15, 18] hold0 ?_
 refine SG_one (fuel := 1) 6 (by kernel_rfl) ?_
 refine SN_by (fuel := 1) 6 rfl ?_
 refine SO_look (s := d.name) (z := .slice none 0 0) (G := fun s => .row 4 (offG (putsTo st.all st.all.length) s).length (fun i => (offG (putsTo st.all st.all.length) s).getD i junk)) (s' := [(0, (.fp (indexX st))), (2, (.bool own)), (4, (.fp (.agg [(.int .i64 d.kind), (.str d.name), (.int .i64 d.op), (.str d.evr), (.row 5 d.args.length (depAt d.args))]))), (7, .nils), (13, (.smap (.slice none 0 0) (fun s => .row 4 (offG (putsTo st.all st.all.length) s).length (fun i => (offG (putsTo st.all st.all.length) s).getD i junk)))), (15, (.str d.name)), (18, (.int .i64 0)), (16, (.row 4 (offG (putsTo st.all st.all.length) d.name).length (fun i => (offG (putsTo st.all st.all.length) d.name).getD i junk)))]) (by kernel_rfl) (by kernel_rfl) (by kernel_rfl) Tryz.underlying78 Tryz.underlying9 (fun _ => by kernel_rfl) (by kernel_rfl) ?_
 refine SO_nil ⟨rfl, ?_⟩
 refine SG_F (fuel := 0) [] [7] [0, 2, 4, 7, 16, 17, 18] hold0 ?_
 refine SG_S [0, 2, 4, 7, 16, 17, 18] ?_
 refine SG_done (by kernel_rfl) ?_
 refine SW_block ?_
 refine SW_conv 16 (rowOf 4 offX (offL (putsTo st.all st.all.length) d.name)) (by kernel_rfl) (off_imp (putsTo st.all st.all.length) d.name) ?_
 refine SW_thaw 3 1 7 (y := ⟨[(0, (.fp (indexX st))), (2, (.bool own)), (4, (.fp (.agg [(.int .i64 d.kind), (.str d.name), (.int .i64 d.op), (.str d.evr), (.row 5 d.args.length (depAt d.args))]))), (7, (.own 1)), (16, (rowOf 4 offX (offL (putsTo st.all st.all.length) d.name))), (17, (.int .i64 (((offG (putsTo st.all st.all.length) d.name).length : Int)))), (18, (.int .i64 0))], [(1, (.grow [] 3 1))], 2⟩) (by kernel_rfl) (by kernel_rfl) ?_
 refine SW_L (fun g y => ∃ (i : Nat), i ≤ (offL (putsTo st.all st.all.length) d.name).length ∧ y = ⟨[(0, (.fp (indexX st))), (2, (.bool own)), (4, (.fp (.agg [(.int .i64 d.kind), (.str d.name), (.int .i64 d.op), (.str d.evr), (.row 5 d.args.length (depAt d.args))]))), (7, (.own 1)), (16, (rowOf 4 offX (offL (putsTo st.all st.all.length) d.name))), (17, (.int .i64 (((offG (putsTo st.all st.all.length) d.name).length : Int)))), (18, (.int .i64 ((i : Int))))], [(1, (.grow ((hitsTo m st d own i).map (AV.int .i64)) 3 1))], 2⟩ ∧ g = (offL (putsTo st.all st.all.length) d.name).length - i) [0, 2, 4, 7, 16, 17, 18] 2 _ (by omega) ⟨0, (by omega), (by kernel_rfl), rfl⟩ ?_
 rintro g1 y1 ⟨i, f1_1, rfl, rfl⟩
 have hhl := hitsTo_len (m := m) (st := st) (d := d) (own := own) (i := i)
 have hhm : ((hitsTo m st d own i).map (AV.int .i64)).length = (hitsTo m st d own i).length := List.length_map _
 refine SW_P [] [0, 2, 4, 7, 16, 17, 18, 19] ?_
 refine SW_seq ?_
 refine SW_if (p := (i : Int) < ((offG (putsTo st.all st.all.length) d.name).length : Int)) (by kernel_rfl) (fun c1 => ?_) (fun c1 => ?_)
 ·refine SW_skip ?_
  refine SW_seq ?_
  refine SW_block ?_
  refine SW_H [] [0, 2, 4, 7, 9, 16, 17, 18] [] hk0 v0 (cc 0 (p := (0 ≤ (i : Int) ∧ i < (offL (putsTo st.all st.all.length) d.name).length)) (by first | omega | (simp; omega) | (simp; done) | (intros; simp_all; omega) | (intros; simp_all; done)) <| c0) ?_
  obtain ⟨b1, hb1⟩ : ∃ b, b = ((nth (offL (putsTo st.all st.all.length) d.name) i).own) := ⟨_, rfl⟩
  refine SW_H (CS := [(4, ((!b1) = true → (!b1) = true)), (5, (b1 = false → (!b1) = true)), (10, (b1 || (!own)) = true → (b1 || (!own)) = true ∧ (b1 || (!own)) = true ∧ (b1 || (!own)) = true), (11, ((b1 || (!own)) = true → (b1 || (!own)) = true))]) [25, 26, 29, 30, 31] [0, 2, 4, 7, 9, 16, 17, 18, 33] [(0, 9)] (hkg 10 (b1 || (!own)) en_117 (fun cg => fits_ok m hM st d (nth (offL (putsTo st.all st.all.length) d.name) i) hd (hi.evr (by omega))) <| hk0) (vk 3 24 (a := .bool ((nth (offL (putsTo st.all st.all.length) d.name) i).own)) (b := .bool b1) (Imp.of_eq (by rw [hb1])) <| v0) (by refine cc _ ?_ <| cc _ ?_ <| cc _ ?_ <| cc _ ?_ c0 <;> first | omega | (simp; omega) | (simp; done) | (intros; simp_all; omega) | (intros; simp_all; done)) ?_
  refine SW_cond (q := (b1 || (!own)) && (fitsB m st.kind d (nth (offL (putsTo st.all st.all.length) d.name) i))) (by kernel_rfl) (fun c2 => ?_) (fun c2 => ?_)
  ·subst hb1
   try simp only [Bool.and_eq_true, Bool.or_eq_true, Bool.and_eq_false_iff, Bool.or_eq_false_iff, Bool.not_eq_true', Bool.not_eq_false', decide_eq_true_eq, decide_eq_false_iff_not] at c2
   refine SW_reg ?_
   refine SO_HA 0 [] [0, 2, 4, 7, 16, 17, 18] [] hk0 v0 (cc 4 (p := ((((hitsTo m st d own i).map (AV.int .i64)).length + 1) * 8 ≤ 140737488355328)) (by first | omega | (simp; omega) | (simp; done) | (intros; simp_all; omega) | (intros; simp_all; done)) <| c0) ?_
   refine SW_reg ?_
   refine SO_HA 0 [] [0, 2, 4, 7, 16, 17, 18] [] hk0 v0 (cc 0 (p := (-9223372036854775808 ≤ (i : Int) + 1 ∧ (i : Int) + 1 ≤ 9223372036854775807)) (by first | omega | (simp; omega) | (simp; done) | (intros; simp_all; omega) | (intros; simp_all; done)) <| c0) ?_
   refine ⟨by kernel_rfl, _, ?_, i + 1, ?_, (Eq.trans (b := (⟨[(0, (.fp (indexX st))), (2, (.bool own)), (4, (.fp (.agg [(.int .i64 d.kind), (.str d.name), (.int .i64 d.op), (.str d.evr), (.row 5 d.args.length (depAt d.args))]))), (7, (.own 1)), (16, (rowOf 4 offX (offL (putsTo st.all st.all.length) d.name))), (17, (.int .i64 (((offG (putsTo st.all st.all.length) d.name).length : Int)))), (18, (.int .i64 ((i : Int) + 1)))], [(1, (.grow (((hitsTo m st d own i).map (AV.int .i64)) ++ ([(.int .i64 ((nth (offL (putsTo st.all st.all.length) d.name) i).id))] : List AV)) 3 1))], 2⟩ : St)) (by kernel_rfl) (by rw [hits_yes (by omega) (by unfold hitB; simpa using c2)] <;> kernel_rfl)), rfl⟩
   ·omega
   ·omega
  ·subst hb1
   try simp only [Bool.and_eq_true, Bool.or_eq_true, Bool.and_eq_false_iff, Bool.or_eq_false_iff, Bool.not_eq_true', Bool.not_eq_false', decide_eq_true_eq, decide_eq_false_iff_not] at c2
   refine SW_skip ?_
   refine SW_reg ?_
   refine SO_HA 0 [] [0, 2, 4, 7, 16, 17, 18] [] hk0 v0 (cc 0 (p := (-9223372036854775808 ≤ (i : Int) + 1 ∧ (i : Int) + 1 ≤ 9223372036854775807)) (by first | omega | (simp; omega) | (simp; done) | (intros; simp_all; omega) | (intros; simp_all; done)) <| c0) ?_
   refine ⟨by kernel_rfl, _, ?_, i + 1, ?_, (Eq.trans (b := (⟨[(0, (.fp (indexX st))), (2, (.bool own)), (4, (.fp (.agg [(.int .i64 d.kind), (.str d.name), (.int .i64 d.op), (.str d.evr), (.row 5 d.args.length (depAt d.args))]))), (7, (.own 1)), (16, (rowOf 4 offX (offL (putsTo st.all st.all.length) d.name))), (17, (.int .i64 (((offG (putsTo st.all st.all.length) d.name).length : Int)))), (18, (.int .i64 ((i : Int) + 1)))], [(1, (.grow ((hitsTo m st d own i).map (AV.int .i64)) 3 1))], 2⟩ : St)) (by kernel_rfl) (by rw [hits_no (by omega) (by unfold hitB; simp only [Bool.and_eq_false_iff, Bool.or_eq_false_iff, Bool.not_eq_false']; simpa only [Bool.not_eq_false', Bool.not_eq_eq_eq_not, Bool.not_false] using c2)] <;> kernel_rfl)), rfl⟩
   ·omega
   ·omega
 ·refine SW_exit ?_
  refine SW_seq ?_
  refine SW_reg ?_
  refine SO_H 1 0 [] [40] [] hk0 v0 c0 ?_
  refine SO_callS [1] (al := [(.own 1)]) (al' := [(.own 0)]) (r := (.own 0)) (r' := (.own 1)) (s' := [(40, junk), (41, (.own 1))]) (H := [(0, (.grow ((hitsTo m st d own i).map (AV.int .i64)) 3 1))]) (H' := [(0, (.grow ((Lib.compact (hitsTo m st d own i)).map (AV.int .i64)) 3 1))]) (h2 := [(1, (.grow ((Lib.compact (hitsTo m st d own i)).map (AV.int .i64)) 3 1))]) (by kernel_rfl) (by exact en_118) (by kernel_rfl) (by kernel_rfl) (by kernel_rfl) (by kernel_rfl) (by kernel_rfl) (compactI_any (hitsTo m st d own i) (by have := hitsTo_len (m := m) (st := st) (d := d) (own := own) (i := i); omega)) (by kernel_rfl) (by kernel_rfl) (by kernel_rfl) ?_
  refine SO_HA 2 [] [6] [] hk0 v0 c0 ?_
  refine SW_ret ?_
  refine RK wR [(.row 1 ((Lib.compact (hitsTo m st d own i)).map (AV.int .i64)).length (fun ix => ((Lib.compact (hitsTo m st d own i)).map (AV.int .i64)).getD ix junk))] ?_
  rw [show i = (offL (putsTo st.all st.all.length) d.name).length from by omega]
  exact Same.list (f := AV.int .i64) (List.length_map _)
end Sv
end Go.Proofs.YtlfjokcbkopfeaaGreatDoor
end
section
namespace Go.Proofs.YtlfjokcbkopfeaaGreatDoor
open Go Go.RowKit
namespace Sv
attribute [local irreducible] SW SO holds
theorem en_158 : Enters Tryz.prog 158 := enters_of Tryz.func158 (by kernel_rfl) rfl
theorem en_115 : Enters Tryz.prog 115 := enters_of Tryz.func115 (by kernel_rfl) rfl
theorem en_112 : Enters Tryz.prog 112 := enters_of Tryz.func112 (by kernel_rfl) rfl
theorem en_113 : Enters Tryz.prog 113 := enters_of Tryz.func113 (by kernel_rfl) rfl
theorem en_114 : Enters Tryz.prog 114 := enters_of Tryz.func114 (by kernel_rfl) rfl
theorem en_116 : Enters Tryz.prog 116 := enters_of Tryz.func116 (by kernel_rfl) rfl
theorem en_55 : Enters Tryz.prog 55 := enters_of Tryz.func55 (by kernel_rfl) rfl
theorem en_54 : Enters Tryz.prog 54 := enters_of Tryz.func54 (by kernel_rfl) rfl
instance : Inhabited AV := ⟨.nilf⟩
def cloX (q : AV × Bool) : AV := .clo q.1
def placeI (l : List Int) (v : Int) : Int := idxF (fun x => decide (v = x)) l
set_option maxHeartbeats 400000 in
set_option maxRecDepth 100000 in
theorem indexI_ok (l : List Int) (v : Int) (hl : l.length ≤ 4611686018427387904) :
  FnV Tryz.prog 128 [(nums l), (.int .i64 v)] (.int .i64 (placeI l v)) := by
 refine FnV_intro [.tmp 4] Tryz.func128 rfl Tryz.ntmps128 rfl rfl (fun B F hF => ?_)
 refine SW_P [] [0, 1] ?_
 refine SW_seq ?_
 refine SW_P [] [0, 1, 7, 8] ?_
 refine SW_block ?_
 refine SW_L (fun g y => ∃ (i : Nat), i ≤ l.length ∧ (∀ j, j < i → ¬ v = nth l j) ∧ y = ⟨[(0, (nums l)), (1, (.int .i64 v)), (7, (.int .i64 ((l.length : Int)))), (8, (.int .i64 ((i : Int))))], [], 0⟩ ∧ g = l.length - i) [0, 1, 7, 8] 0 _ (by omega) ⟨0, (by omega), (by exact fun j hj => by omega), (by kernel_rfl), rfl⟩ ?_
 rintro g1 y1 ⟨i, f1_1, f1_2, rfl, rfl⟩
 refine SW_P [] [0, 1, 7, 8, 9] ?_
 refine SW_seq ?_
 refine SW_if (p := (i : Int) < (l.length : Int)) (by kernel_rfl) (fun c1 => ?_) (fun c1 => ?_)
 ·refine SW_skip ?_
  refine SW_seq ?_
  refine SW_block ?_
  refine SW_P [] [0, 1, 5, 7, 8] ?_
  refine SW_H [] [0, 1, 5, 7, 8, 16] [] hk0 v0 (cc 3 (p := (0 ≤ (i : Int) ∧ i < l.length)) (by first | omega | (simp; omega) | (simp; done) | (intros; simp_all; omega) | (intros; simp_all; done)) <| c0) ?_
  refine SW_if (p := v = (nth l i)) (by kernel_rfl) (fun c2 => ?_) (fun c2 => ?_)
  ·refine SW_P [] [4] ?_
   refine SW_ret ?_
   refine RK wR [(.int .i64 ((i : Int)))] ?_
   exact Same.of_eq (by unfold placeI; rw [idxF_at (p := fun x => decide (v = x)) (i := i) (by omega) (fun j hj => by simpa using f1_2 j hj) (by simpa using c2)]; rfl)
  ·refine SW_skip ?_
   refine SW_reg ?_
   refine SO_HA 0 [] [0, 1, 7, 8] [] hk0 v0 (cc 0 (p := (-9223372036854775808 ≤ (i : Int) + 1 ∧ (i : Int) + 1 ≤ 9223372036854775807)) (by first | omega | (simp; omega) | (simp; done) | (intros; simp_all; omega) | (intros; simp_all; done)) <| c0) ?_
   refine ⟨by kernel_rfl, _, ?_, i + 1, ?_, ?_, (by kernel_rfl), rfl⟩
   ·omega
   ·omega
   ·intro j hj
    by_cases h : j = i
    ·subst h; assumption
    ·exact f1_2 j (by omega)
 ·refine SW_exit ?_
  refine SW_P [] [4] ?_
  refine SW_ret ?_
  refine RK wR [(.int .i64 (-1))] ?_
  exact Same.of_eq (by unfold placeI; rw [idxF_no (p := fun x => decide (v = x)) (fun j hj => by simpa using f1_2 j (by omega))]; rfl)
set_option maxHeartbeats 400000 in
set_option maxRecDepth 100000 in
theorem containsI_ok (l : List Int) (v : Int) (hl : l.length ≤ 4611686018427387904) :
  FnV Tryz.prog 78 [(nums l), (.int .i64 v)] (.bool (l.any fun x => decide (v = x))) := by
 refine FnV_intro [.tmp 4] Tryz.func78 rfl Tryz.ntmps78 rfl rfl (fun B F hF => ?_)
 refine SW_P [] [0, 1] ?_
 refine SW_H [] [4] [] (hk 2 en_128 (indexI_ok l v hl) <| hk0) v0 c0 ?_
 refine SW_ret ?_
 refine RK wR [(.bool (decide (0 ≤ (placeI l v))))] ?_
 exact Same.of_eq (by simp only [pack]; unfold placeI; rw [idxF_any])
set_option maxHeartbeats 400000 in
set_option maxRecDepth 100000 in
theorem funF_idx (l : List (AV × Bool)) (a : AV) (p : (AV × Bool) → Bool) (hl : l.length ≤ 4611686018427387904) (ha : ∀ i, i < l.length → FunV Tryz.prog a [(.clo ((nth l i).1))] (.bool (p (nth l i)))) :
  FnV Tryz.prog 158 [(rowOf 1 cloX l), (.clo a)] (.int .i64 (idxF p l)) := by
 refine FnV_intro [.tmp 4] Tryz.func158 rfl Tryz.ntmps158 rfl rfl (fun B F hF => ?_)
 refine SW_P [] [0, 1] ?_
 refine SW_seq ?_
 refine SW_P [] [0, 1, 7, 8] ?_
 refine SW_block ?_
 refine SW_L (fun g y => ∃ (i : Nat), i ≤ l.length ∧ (∀ j, j < i → p (nth l j) = false) ∧ y = ⟨[(0, (rowOf 1 cloX l)), (1, (.clo a)), (7, (.int .i64 ((l.length : Int)))), (8, (.int .i64 ((i : Int))))], [], 0⟩ ∧ g = l.length - i) [0, 1, 7, 8] 0 _ (by omega) ⟨0, (by omega), (by exact fun j hj => by omega), (by kernel_rfl), rfl⟩ ?_
 rintro g1 y1 ⟨i, f1_1, f1_2, rfl, rfl⟩
 refine SW_P [] [0, 1, 7, 8, 9] ?_
 refine SW_seq ?_
 refine SW_if (p := (i : Int) < (l.length : Int)) (by kernel_rfl) (fun c1 => ?_) (fun c1 => ?_)
 ·refine SW_skip ?_
  refine SW_seq ?_
  refine SW_block ?_
  refine SW_P [] [0, 1, 5, 7, 8] ?_
  refine SW_seq ?_
  refine SW_reg ?_
  refine SO_H 5 0 [] [0, 1, 5, 7, 8, 11, 15] [] hk0 v0 (cc 3 (p := (0 ≤ (i : Int) ∧ i < l.length)) (by first | omega | (simp; omega) | (simp; done) | (intros; simp_all; omega) | (intros; simp_all; done)) <| c0) ?_
  refine SO_callA (s' := [(0, (rowOf 1 cloX l)), (1, (.clo a)), (5, (.int .i64 ((i : Int)))), (7, (.int .i64 ((l.length : Int)))), (8, (.int .i64 ((i : Int)))), (11, (.clo a)), (15, (.clo ((nth l i).1))), (16, (.bool (p (nth l i))))]) (a := (.clo a)) (al := [(.clo ((nth l i).1))]) (r := (.bool (p (nth l i)))) (by kernel_rfl) (by kernel_rfl) (by kernel_rfl) (by kernel_rfl) (by kernel_rfl) ((ha i (by omega)).clo) (by kernel_rfl) ?_
  refine SO_nil ?_
  refine SW_cond (q := p (nth l i)) (by kernel_rfl) (fun c2 => ?_) (fun c2 => ?_)
  ·try simp only [Bool.and_eq_true, Bool.or_eq_true, Bool.and_eq_false_iff, Bool.or_eq_false_iff, Bool.not_eq_true', Bool.not_eq_false', decide_eq_true_eq, decide_eq_false_iff_not] at c2
   refine SW_P [] [4] ?_
   refine SW_ret ?_
   refine RK wR [(.int .i64 ((i : Int)))] ?_
   exact Same.of_eq (by rw [idxF_at (by omega) f1_2 (by simp_all)]; rfl)
  ·try simp only [Bool.and_eq_true, Bool.or_eq_true, Bool.and_eq_false_iff, Bool.or_eq_false_iff, Bool.not_eq_true', Bool.not_eq_false', decide_eq_true_eq, decide_eq_false_iff_not] at c2
   refine SW_skip ?_
   refine SW_reg ?_
   refine SO_HA 0 [] [0, 1, 7, 8] [] hk0 v0 (cc 0 (p := (-9223372036854775808 ≤ (i : Int) + 1 ∧ (i : Int) + 1 ≤ 9223372036854775807)) (by first | omega | (simp; omega) | (simp; done) | (intros; simp_all; omega) | (intros; simp_all; done)) <| c0) ?_
   refine ⟨by kernel_rfl, _, ?_, i + 1, ?_, ?_, (by kernel_rfl), rfl⟩
   ·omega
   ·omega
   ·intro j hj
    by_cases h : j = i
    ·subst h; simp_all
    ·exact f1_2 j (by omega)
 ·refine SW_exit ?_
  refine SW_P [] [4] ?_
  refine SW_ret ?_
  refine RK wR [(.int .i64 (-1))] ?_
  exact Same.of_eq (by rw [idxF_no (fun j hj => f1_2 j (by omega))]; rfl)
set_option maxHeartbeats 400000 in
set_option maxRecDepth 100000 in
theorem funF_has (l : List (AV × Bool)) (a : AV) (p : (AV × Bool) → Bool) (hl : l.length ≤ 4611686018427387904) (ha : ∀ i, i < l.length → FunV Tryz.prog a [(.clo ((nth l i).1))] (.bool (p (nth l i)))) :
  FnV Tryz.prog 115 [(rowOf 1 cloX l), (.clo a)] (.bool (l.any p)) := by
 refine FnV_intro [.tmp 4] Tryz.func115 rfl Tryz.ntmps115 rfl rfl (fun B F hF => ?_)
 refine SW_P [] [0, 1] ?_
 refine SW_H [] [4] [] (hk 2 en_158 (funF_idx l a p hl ha) <| hk0) v0 c0 ?_
 refine SW_ret ?_
 refine RK wR [(.bool (decide (0 ≤ (idxF p l))))] ?_
 exact Same.of_eq (by simp only [pack]; rw [idxF_any])
set_option maxHeartbeats 400000 in
set_option maxRecDepth 100000 in
theorem alone1_ok (l : List Int) (id : Int) (hl : l.length ≤ 4611686018427387904) :
  FnV Tryz.prog 112 [(.int .i64 id), (.fp (.agg [(nums l)]))] (.bool (l.any fun x => decide (id = x))) := by
 refine FnV_intro [.tmp 3] Tryz.func112 rfl Tryz.ntmps112 rfl rfl (fun B F hF => ?_)
 refine SW_P [] [0, 1] ?_
 refine SW_H [] [3] [] (hk 2 en_78 (containsI_ok l id hl) <| hk0) v0 c0 ?_
 refine SW_ret ?_
 refine RK wR [(.bool (l.any fun x => decide (id = x)))] ?_
 exact Same.of_eq (by first | rfl | (simp only [pack]; simp_all))
set_option maxHeartbeats 400000 in
set_option maxRecDepth 100000 in
theorem alone2_ok (l : List (AV × Bool)) (id : Int) (hl : 2 ≤ l.length) (hf : ∀ i, i < l.length → FunV Tryz.prog (nth l i).1 [.int .i64 id] (.bool (nth l i).2)) :
  FnV Tryz.prog 113 [(.int .i64 id), (.fp (.agg [(rowOf 1 cloX l)]))] (.bool ((nth l 0).2 && !(nth l 1).2)) := by
 refine FnV_intro [.tmp 3] Tryz.func113 rfl Tryz.ntmps113 rfl rfl (fun B F hF => ?_)
 refine SW_P [] [0, 1] ?_
 refine SW_seq ?_
 refine SW_reg ?_
 refine SO_H 4 0 [] [0, 1, 6, 7] [] hk0 v0 (cc 1 (p := (0 ≤ (0 : Int) ∧ 0 < l.length)) (by first | omega | (simp; omega) | (simp; done) | (intros; simp_all; omega) | (intros; simp_all; done)) <| c0) ?_
 refine SO_callA (s' := [(0, (.int .i64 id)), (1, (.fp (.agg [(rowOf 1 cloX l)]))), (6, (.clo ((nth l 0).1))), (7, (.int .i64 id)), (8, (.bool ((nth l 0).2)))]) (a := (.clo ((nth l 0).1))) (al := [(.int .i64 id)]) (r := (.bool ((nth l 0).2))) (by kernel_rfl) (by kernel_rfl) (by kernel_rfl) (by kernel_rfl) (by kernel_rfl) ((hf 0 (by omega)).clo) (by kernel_rfl) ?_
 refine SO_H 1 5 [] [0, 1, 9] [] hk0 v0 c0 ?_
 refine bool_two ((nth l 0).2) (fun c1 => ?_) (fun c1 => ?_)
 ·refine SO_conv 9 (a := .bool ((nth l 0).2)) (.bool true) (by kernel_rfl) (Imp.of_eq (by rw [c1])) ?_
  refine SO_H 4 6 [] [9, 12, 13] [] hk0 v0 (cc 7 (p := (0 ≤ (1 : Int) ∧ 1 < l.length)) (by first | omega | (simp; omega) | (simp; done) | (intros; simp_all; omega) | (intros; simp_all; done)) <| c0) ?_
  refine SO_callA (s' := [(9, (.bool true)), (12, (.clo ((nth l 1).1))), (13, (.int .i64 id)), (14, (.bool ((nth l 1).2)))]) (a := (.clo ((nth l 1).1))) (al := [(.int .i64 id)]) (r := (.bool ((nth l 1).2))) (by kernel_rfl) (by kernel_rfl) (by kernel_rfl) (by kernel_rfl) (by kernel_rfl) ((hf 1 (by omega)).clo) (by kernel_rfl) ?_
  refine SO_HA 11 [] [3] [] hk0 v0 c0 ?_
  refine SW_ret ?_
  refine RK wR [(.bool (!((nth l 1).2)))] ?_
  exact Same.of_eq (by simp only [pack]; simp_all)
 ·refine SO_conv 9 (a := .bool ((nth l 0).2)) (.bool false) (by kernel_rfl) (Imp.of_eq (by rw [c1])) ?_
  refine SO_HA 6 [] [3] [] hk0 v0 c0 ?_
  refine SW_ret ?_
  refine RK wR [(.bool false)] ?_
  exact Same.of_eq (by simp only [pack]; simp_all)
set_option maxHeartbeats 400000 in
set_option maxRecDepth 100000 in
theorem alone31_ok (a : AV) (q : Bool) (id : Int) (hf : FunV Tryz.prog a [.int .i64 id] (.bool q)) :
  FnV Tryz.prog 116 [(.clo a), (.fp (.agg [(.int .i64 id)]))] (.bool (!q)) := by
 refine FnV_intro [.tmp 3] Tryz.func116 rfl Tryz.ntmps116 rfl rfl (fun B F hF => ?_)
 refine SW_P [] [0, 1] ?_
 refine SW_seq ?_
 refine SW_reg ?_
 refine SO_H 2 0 [] [4, 5] [] hk0 v0 c0 ?_
 refine SO_callA (s' := [(4, (.clo a)), (5, (.int .i64 id)), (6, (.bool q))]) (a := (.clo a)) (al := [(.int .i64 id)]) (r := (.bool q)) (by kernel_rfl) (by kernel_rfl) (by kernel_rfl) (by kernel_rfl) (by kernel_rfl) hf.clo (by kernel_rfl) ?_
 refine SO_HA 3 [] [3] [] hk0 v0 c0 ?_
 refine SW_ret ?_
 refine RK wR [(.bool (!q))] ?_
 exact Same.of_eq (by first | rfl | (simp only [pack]; simp_all))
set_option maxHeartbeats 400000 in
set_option maxRecDepth 100000 in
theorem alone3_ok (l : List (AV × Bool)) (id : Int) (hl : l.length ≤ 4611686018427387904) (hf : ∀ i, i < l.length → FunV Tryz.prog (nth l i).1 [.int .i64 id] (.bool (nth l i).2)) :
  FnV Tryz.prog 114 [(.int .i64 id), (.fp (.agg [(rowOf 1 cloX l)]))] (.bool (!l.any fun q => !q.2)) := by
 refine FnV_intro [.tmp 3] Tryz.func114 rfl Tryz.ntmps114 rfl rfl (fun B F hF => ?_)
 refine SW_P [] [1, 2] ?_
 refine SW_seq ?_
 refine SW_reg ?_
 refine SO_H 2 0 [] [4, 5] [] hk0 v0 c0 ?_
 refine SO_callB (s' := [(4, (rowOf 1 cloX l)), (5, (.fn 116 [] [(.ptr 0 0)])), (6, (.bool (l.any fun q => !q.2)))]) (al := [(rowOf 1 cloX l), (.fn 116 [] [(.ptr 0 0)])]) (al' := [(rowOf 1 cloX l), (.fn 116 [] [(.fp (.agg [(.int .i64 id)]))])]) (h' := []) (r := (.bool (l.any fun q => !q.2))) (by kernel_rfl) (by exact en_115) (by kernel_rfl) (by kernel_rfl) ((funF_has l (.fn 116 [] [.fp (.agg [.int .i64 id])]) (fun q => !q.2) hl (fun i hi => FunV.of (by exact en_116) (alone31_ok (nth l i).1 (nth l i).2 id (hf i hi)))).of_args (ImpL.cons Imp.refl (ImpL.cons (Imp.clo rfl) ImpL.nil))) rfl (by kernel_rfl) ?_
 refine SO_HA 3 [] [3] [] hk0 v0 c0 ?_
 refine SW_ret ?_
 refine RK wR [(.bool (!(l.any fun q => !q.2)))] ?_
 exact Same.of_eq (by first | rfl | (simp only [pack]; simp_all))
set_option maxHeartbeats 400000 in
set_option maxRecDepth 100000 in
theorem single_ok (k : Int) :
  FnV Tryz.prog 54 [(.int .i64 k)] (.bool (decide (k = 1) || (decide (k = 5) || decide (k = 6)))) := by
 refine FnV_intro [.tmp 2] Tryz.func54 rfl Tryz.ntmps54 rfl rfl (fun B F hF => ?_)
 refine SW_P [] [0] ?_
 obtain ⟨b1, hb1⟩ : ∃ b, b = ((decide (k = 1)) || (decide (k = 5))) := ⟨_, rfl⟩
 refine SW_H (CS := [(4, ((!(decide (k = 1))) = true → (!(decide (k = 1))) = true)), (5, ((decide (k = 1)) = false → (!(decide (k = 1))) = true)), (8, ((!b1) = true → (!b1) = true)), (9, (b1 = false → (!b1) = true))]) [6, 7, 10, 11] [2] [] hk0 (vk 7 9 (a := .bool ((decide (k = 1)) || (decide (k = 5)))) (b := .bool b1) (Imp.of_eq (by rw [hb1])) <| v0) (by refine cc _ ?_ <| cc _ ?_ <| cc _ ?_ <| cc _ ?_ c0 <;> first | omega | (simp; omega) | (simp; done) | (intros; simp_all; omega) | (intros; simp_all; done)) ?_
 refine SW_ret ?_
 refine RK wR [(.bool (b1 || (decide (k = 6))))] ?_
 subst hb1
 exact Same.of_eq (by simp only [pack, Bool.or_assoc])
end Sv
end Go.Proofs.YtlfjokcbkopfeaaGreatDoor
end
section
namespace Go.Proofs.YtlfjokcbkopfeaaGreatDoor
open Go Go.RowKit
namespace Sv
attribute [local irreducible] SW SO holds
noncomputable def aloneV (m : Int → Int → List UInt8 → Int → List UInt8 → Bool × Int) (st : PoolT) : Nat → DepT → AV
 | 0, _ => .nilf
 | n + 1, d => if d.kind = 1 then .fn 112 [] [.fp (.agg [nums (namedL m st d false)])] else
  if d.kind = 6 then .fn 113 [] [.fp (.agg [.row 1 ((d.args.map (aloneV m st n)).map AV.clo).length (fun i => ((d.args.map (aloneV m st n)).map AV.clo).getD i junk)])] else
  .fn 114 [] [.fp (.agg [.row 1 ((d.args.map (aloneV m st n)).map AV.clo).length (fun i => ((d.args.map (aloneV m st n)).map AV.clo).getD i junk)])]
theorem aloneV_name {m : Int → Int → List UInt8 → Int → List UInt8 → Bool × Int} {st : PoolT} {n : Nat} {d : DepT} (h : d.kind = 1) : aloneV m st (n + 1) d = .fn 112 [] [.fp (.agg [nums (namedL m st d false)])] := by unfold aloneV; rw [if_pos h]
theorem aloneV_out {m : Int → Int → List UInt8 → Int → List UInt8 → Bool × Int} {st : PoolT} {n : Nat} {d : DepT} (h : d.kind = 6) : aloneV m st (n + 1) d = .fn 113 [] [.fp (.agg [.row 1 ((d.args.map (aloneV m st n)).map AV.clo).length (fun i => ((d.args.map (aloneV m st n)).map AV.clo).getD i junk)])] := by unfold aloneV; rw [if_neg (by omega), if_pos h]
theorem aloneV_all {m : Int → Int → List UInt8 → Int → List UInt8 → Bool × Int} {st : PoolT} {n : Nat} {d : DepT} (h1 : ¬ d.kind = 1) (h6 : ¬ d.kind = 6) : aloneV m st (n + 1) d = .fn 114 [] [.fp (.agg [.row 1 ((d.args.map (aloneV m st n)).map AV.clo).length (fun i => ((d.args.map (aloneV m st n)).map AV.clo).getD i junk)])] := by unfold aloneV; rw [if_neg h1, if_neg h6]
theorem alone_next {g : DepT → AV} {l : List DepT} {i : Nat} (h : i < l.length) : ((l.take (i + 1)).map g).map AV.clo = ((l.take i).map g).map AV.clo ++ [.clo (g (nth l i))] := by
 rw [List.take_add_one, List.getElem?_eq_getElem h, List.map_append, List.map_append]
 simp [nth, h]
set_option maxHeartbeats 1000000 in
set_option maxRecDepth 100000 in
theorem alone_step (m : Int → Int → List UInt8 → Int → List UInt8 → Bool × Int) (hM : MeetsOk m) (st : PoolT) (hi : IdxOk st) (n : Nat) (d : DepT) (hd : d.size ≤ 4194304) (ih : ∀ i, i < d.args.length → FnV Tryz.prog 55 [(.fp (indexX st)), (.agg [(.int .i64 ((nth d.args i).kind)), (.str ((nth d.args i).name)), (.int .i64 ((nth d.args i).op)), (.str ((nth d.args i).evr)), (.row 5 (nth d.args i).args.length (depAt (nth d.args i).args))])] (.clo (aloneV m st n (nth d.args i)))) :
  FnV Tryz.prog 55 [(.fp (indexX st)), (.agg [(.int .i64 d.kind), (.str d.name), (.int .i64 d.op), (.str d.evr), (.row 5 d.args.length (depAt d.args))])] (.clo (aloneV m st (n + 1) d)) := by
 have hda := size_args d
 have hal := args_len d.args
 refine FnV_intro [.tmp 4] Tryz.func55 rfl Tryz.ntmps55 rfl rfl (fun B F hF => ?_)
 refine SW_H [] [0, 3] [(1, 3)] hk0 v0 c0 ?_
 refine SW_seq ?_
 refine SW_P [] [0, 3, 11] ?_
 refine SW_if (p := d.kind = 1) (by kernel_rfl) (fun c1 => ?_) (fun c1 => ?_)
 ·refine SW_H [] [5] [] (hk 2 en_57 (named_ok m hM st hi d false hd) <| hk0) v0 c0 ?_
  refine SW_P [] [4] ?_
  refine SW_ret ?_
  refine RK wR [(.fn 112 [] [(.fp (.agg [(nums (namedL m st d false))]))])] ?_
  simp only [pack]
  rw [aloneV_name (by assumption)]
  exact (Imp.clo (by kernel_rfl)).same
 ·refine SW_skip ?_
  refine SW_P [] [0, 3, 6] ?_
  refine SW_seq ?_
  refine SW_P [] [0, 3, 6, 17, 18, 19] ?_
  refine SW_block ?_
  refine SW_conv 17 (rowOf 5 depX d.args) (by kernel_rfl) (deps_of d.args) ?_
  refine SW_thawC 99 1 1 0 (y := ⟨[(0, (.fp (indexX st))), (3, (.fp (.agg [(.int .i64 d.kind), (.str d.name), (.int .i64 d.op), (.str d.evr), (.row 5 d.args.length (depAt d.args))]))), (6, (.ptr 1 0)), (17, (rowOf 5 depX d.args)), (18, (.int .i64 ((d.args.length : Int)))), (19, (.int .i64 0))], [(1, (.row [(.own 2)] 149)), (2, (.grow [] 99 1))], 3⟩) (by kernel_rfl) (by kernel_rfl) ?_
  refine SW_L (fun g y => ∃ (i : Nat), i ≤ d.args.length ∧ y = ⟨[(0, (.fp (indexX st))), (3, (.fp (.agg [(.int .i64 d.kind), (.str d.name), (.int .i64 d.op), (.str d.evr), (.row 5 d.args.length (depAt d.args))]))), (6, (.ptr 1 0)), (17, (rowOf 5 depX d.args)), (18, (.int .i64 ((d.args.length : Int)))), (19, (.int .i64 ((i : Int))))], [(1, (.row [(.own 2)] 149)), (2, (.grow (((d.args.take i).map (aloneV m st n)).map AV.clo) 99 1))], 3⟩ ∧ g = d.args.length - i) [0, 3, 6, 17, 18, 19] 3 _ (by omega) ⟨0, (by omega), (by kernel_rfl), rfl⟩ ?_
  rintro g1 y1 ⟨i, f1_1, rfl, rfl⟩
  have hgl : (((d.args.take i).map (aloneV m st n)).map AV.clo).length ≤ 4611686018 := by simp only [List.length_map, List.length_take]; omega
  refine SW_P [] [0, 3, 6, 17, 18, 19, 20] ?_
  refine SW_seq ?_
  refine SW_if (p := (i : Int) < (d.args.length : Int)) (by kernel_rfl) (fun c2 => ?_) (fun c2 => ?_)
  ·refine SW_skip ?_
   refine SW_C (fun y => y = ⟨[(0, (.fp (indexX st))), (3, (.fp (.agg [(.int .i64 d.kind), (.str d.name), (.int .i64 d.op), (.str d.evr), (.row 5 d.args.length (depAt d.args))]))), (6, (.ptr 1 0)), (17, (rowOf 5 depX d.args)), (18, (.int .i64 ((d.args.length : Int)))), (19, (.int .i64 ((i : Int))))], [(1, (.row [(.own 2)] 149)), (2, (.grow (((d.args.take (i + 1)).map (aloneV m st n)).map AV.clo) 99 1))], 3⟩) [0, 3, 6, 17, 18, 19] 3 (by omega) ?_ ?_
   ·refine SW_block ?_
    refine SW_H [] [0, 3, 6, 8, 17, 18, 19] [] hk0 v0 (cc 0 (p := (0 ≤ (i : Int) ∧ i < d.args.length)) (by first | omega | (simp; omega) | (simp; done) | (intros; simp_all; omega) | (intros; simp_all; done)) <| c0) ?_
    refine SW_still 8 (y := ⟨[(0, (.fp (indexX st))), (3, (.fp (.agg [(.int .i64 d.kind), (.str d.name), (.int .i64 d.op), (.str d.evr), (.row 5 d.args.length (depAt d.args))]))), (6, (.ptr 1 0)), (8, (.fp (.agg [(.int .i64 ((nth d.args i).kind)), (.str ((nth d.args i).name)), (.int .i64 ((nth d.args i).op)), (.str ((nth d.args i).evr)), (.row 5 (nth d.args i).args.length (depAt (nth d.args i).args))]))), (17, (rowOf 5 depX d.args)), (18, (.int .i64 ((d.args.length : Int)))), (19, (.int .i64 ((i : Int))))], [(1, (.row [(.own 2)] 149)), (2, (.grow (((d.args.take i).map (aloneV m st n)).map AV.clo) 99 1))], 4⟩) (by kernel_rfl) ?_
    refine SW_DA [] [0, 3, 6, 17, 18, 19] [] (hk 3 en_55 (ih i (by omega)) <| hk0) v0 (cc 5 (p := (((((d.args.take i).map (aloneV m st n)).map AV.clo).length + 1) * 8 ≤ 140737488355328)) (by first | omega | (simp; omega) | (simp; done) | (intros; simp_all; omega) | (intros; simp_all; done)) <| c0) ?_
    refine ⟨by kernel_rfl, (Eq.trans (b := (⟨[(0, (.fp (indexX st))), (3, (.fp (.agg [(.int .i64 d.kind), (.str d.name), (.int .i64 d.op), (.str d.evr), (.row 5 d.args.length (depAt d.args))]))), (6, (.ptr 1 0)), (17, (rowOf 5 depX d.args)), (18, (.int .i64 ((d.args.length : Int)))), (19, (.int .i64 ((i : Int))))], [(1, (.row [(.own 2)] 149)), (2, (.grow ((((d.args.take i).map (aloneV m st n)).map AV.clo) ++ ([(.clo (aloneV m st n (nth d.args i)))] : List AV)) 99 1))], 3⟩ : St)) (by kernel_rfl) (by rw [show ((((d.args.take i).map (aloneV m st n)).map AV.clo) ++ ([(.clo (aloneV m st n (nth d.args i)))] : List AV)) = ((d.args.take (i + 1)).map (aloneV m st n)).map AV.clo from (alone_next (g := aloneV m st n) (l := d.args) (i := i) (by omega)).symm] <;> kernel_rfl))⟩
   ·rintro y1 rfl
    refine SW_reg ?_
    refine SO_HA 0 [] [0, 3, 6, 17, 18, 19] [] hk0 v0 (cc 0 (p := (-9223372036854775808 ≤ (i : Int) + 1 ∧ (i : Int) + 1 ≤ 9223372036854775807)) (by first | omega | (simp; omega) | (simp; done) | (intros; simp_all; omega) | (intros; simp_all; done)) <| c0) ?_
    refine ⟨by kernel_rfl, _, ?_, i + 1, ?_, (by kernel_rfl), rfl⟩
    ·omega
    ·omega
  ·refine SW_exit ?_
   refine SW_seq ?_
   refine SW_P [] [6, 32] ?_
   refine SW_if (p := d.kind = 6) (by kernel_rfl) (fun c3 => ?_) (fun c3 => ?_)
   ·refine SW_seq ?_
    refine SW_reg ?_
    refine SO_stillC 1 0 (y := ⟨[(6, (.ptr 1 0)), (32, (.bool (decide (d.kind = 6))))], [(1, (.row [(.row 1 (((d.args.take i).map (aloneV m st n)).map AV.clo).length (fun ix => (((d.args.take i).map (aloneV m st n)).map AV.clo).getD ix junk))] 149))], 3⟩) (by kernel_rfl) ?_
    refine SO_P [] [4] ?_
    refine SW_ret ?_
    refine RK wR [(.fn 113 [] [(.fp (.agg [(.row 1 (((d.args.take i).map (aloneV m st n)).map AV.clo).length (fun ix => (((d.args.take i).map (aloneV m st n)).map AV.clo).getD ix junk))]))])] ?_
    rw [show i = d.args.length from by omega]
    simp only [pack]
    rw [show d.args.take d.args.length = d.args from List.take_length]
    rw [aloneV_out (by assumption) ]
    exact (Imp.clo (by kernel_rfl)).same
   ·refine SW_skip ?_
    refine SW_seq ?_
    refine SW_reg ?_
    refine SO_stillC 1 0 (y := ⟨[(6, (.ptr 1 0)), (32, (.bool (decide (d.kind = 6))))], [(1, (.row [(.row 1 (((d.args.take i).map (aloneV m st n)).map AV.clo).length (fun ix => (((d.args.take i).map (aloneV m st n)).map AV.clo).getD ix junk))] 149))], 3⟩) (by kernel_rfl) ?_
    refine SO_P [] [4] ?_
    refine SW_ret ?_
    refine RK wR [(.fn 114 [] [(.fp (.agg [(.row 1 (((d.args.take i).map (aloneV m st n)).map AV.clo).length (fun ix => (((d.args.take i).map (aloneV m st n)).map AV.clo).getD ix junk))]))])] ?_
    rw [show i = d.args.length from by omega]
    simp only [pack]
    rw [show d.args.take d.args.length = d.args from List.take_length]
    rw [aloneV_all (by assumption) (by assumption)]
    exact (Imp.clo (by kernel_rfl)).same
theorem alone_ok (m : Int → Int → List UInt8 → Int → List UInt8 → Bool × Int) (hM : MeetsOk m) (st : PoolT) (hi : IdxOk st) : ∀ (n : Nat) (d : DepT), d.size ≤ n → d.size ≤ 4194304 → FnV Tryz.prog 55 [(.fp (indexX st)), (.agg [(.int .i64 (d.kind)), (.str (d.name)), (.int .i64 (d.op)), (.str (d.evr)), (.row 5 d.args.length (depAt d.args))])] (.clo (aloneV m st n d)) := by
 intro n
 induction n with
 | zero => intro d h; have := size_args d; omega
 | succ n ih => exact fun d h hd => alone_step m hM st hi n d hd fun i hj => ih _ (by have h1 := size_nth hj; omega) (by have h1 := size_nth hj; omega)
end Sv
end Go.Proofs.YtlfjokcbkopfeaaGreatDoor
end
section
namespace Go.Proofs.YtlfjokcbkopfeaaGreatDoor
open Go Go.RowKit
namespace Sv
attribute [local irreducible] SW SO holds
theorem en_61 : Enters Tryz.prog 61 := enters_of Tryz.func61 (by kernel_rfl) rfl
theorem en_120 : Enters Tryz.prog 120 := enters_of Tryz.func120 (by kernel_rfl) rfl
theorem en_121 : Enters Tryz.prog 121 := enters_of Tryz.func121 (by kernel_rfl) rfl
theorem namedL_len {m : Int → Int → List UInt8 → Int → List UInt8 → Bool × Int} {st : PoolT} (hi : IdxOk st) {d : DepT} {own : Bool} : (namedL m st d own).length ≤ 4611686018427387904 := by
 have h1 := compactI_le (hitsTo m st d own (offL (putsTo st.all st.all.length) d.name).length)
 have h2 := hitsTo_len (m := m) (st := st) (d := d) (own := own) (i := (offL (putsTo st.all st.all.length) d.name).length)
 have h3 := hi.len d.name
 unfold namedL; omega
def woB : Nat → DepT → Bool
 | 0, _ => true
 | n + 1, d => (!(decide (d.kind = 6) || decide (d.kind = 4)) || decide (2 ≤ d.args.length)) && d.args.all (woB n)
def aloneB (m : Int → Int → List UInt8 → Int → List UInt8 → Bool × Int) (st : PoolT) : Nat → DepT → Int → Bool
 | 0, _, _ => false
 | n + 1, d, id => if d.kind = 1 then (namedL m st d false).any fun x => decide (id = x) else
  if d.kind = 6 then aloneB m st n (nth d.args 0) id && !aloneB m st n (nth d.args 1) id else !(d.args.any fun a => !aloneB m st n a id)
theorem wo_two {n : Nat} {d : DepT} (h : woB (n + 1) d = true) (hk : d.kind = 6 ∨ d.kind = 4) : 2 ≤ d.args.length := by
 unfold woB at h
 simp only [Bool.and_eq_true, Bool.or_eq_true, Bool.not_eq_true', Bool.or_eq_false_iff, decide_eq_true_eq, decide_eq_false_iff_not] at h
 rcases h.1 with h | h
 ·omega
 ·exact h
theorem wo_arg {n : Nat} {d : DepT} (h : woB (n + 1) d = true) {i : Nat} (hi : i < d.args.length) : woB n (nth d.args i) = true := by
 unfold woB at h
 simp only [Bool.and_eq_true, List.all_eq_true] at h
 exact h.2 _ (by rw [nth_at hi]; exact List.getElem_mem hi)
theorem clo_row (g : DepT → AV) (q : DepT → Bool) (l : List DepT) : Imp (.row 1 ((l.map g).map AV.clo).length (fun i => ((l.map g).map AV.clo).getD i junk)) (rowOf 1 cloX (l.map fun a => (g a, q a))) := by
 have e : (l.map g).map AV.clo = (l.map fun a => (g a, q a)).map cloX := by rw [List.map_map, List.map_map]; rfl
 rw [e]; exact Imp.list (f := cloX) (List.length_map _)
theorem nth_map {α β : Type} [Inhabited α] [Inhabited β] {g : α → β} {l : List α} {i : Nat} (h : i < l.length) : nth (l.map g) i = g (nth l i) := by simp [nth, h]
theorem alone_fun (m : Int → Int → List UInt8 → Int → List UInt8 → Bool × Int) (hM : MeetsOk m) (st : PoolT) (hi : IdxOk st) (id : Int) : ∀ (n : Nat) (d : DepT), d.size ≤ n → d.size ≤ 4194304 → woB n d = true → FunV Tryz.prog (aloneV m st n d) [.int .i64 id] (.bool (aloneB m st n d id)) := by
 intro n
 induction n with
 | zero => intro d h; have := size_args d; omega
 | succ n ih =>
  intro d h hd hw
  have hsa := size_args d
  have hal := args_len d.args
  have hf : ∀ i, i < (d.args.map fun a => (aloneV m st n a, aloneB m st n a id)).length → FunV Tryz.prog (nth (d.args.map fun a => (aloneV m st n a, aloneB m st n a id)) i).1 [.int .i64 id] (.bool (nth (d.args.map fun a => (aloneV m st n a, aloneB m st n a id)) i).2) := by
   intro i hj
   have hj : i < d.args.length := by simpa using hj
   rw [nth_map hj]
   have h1 := size_nth hj
   exact ih _ (by omega) (by omega) (wo_arg hw hj)
  by_cases h1 : d.kind = 1
  ·rw [aloneV_name h1]
   have e : aloneB m st (n + 1) d id = (namedL m st d false).any fun x => decide (id = x) := by unfold aloneB; rw [if_pos h1]
   rw [e]
   exact FunV.of (by exact en_112) (alone1_ok (namedL m st d false) id (namedL_len hi))
  ·by_cases h6 : d.kind = 6
   ·have h2 := wo_two hw (.inl h6)
    rw [aloneV_out h6]
    have e : aloneB m st (n + 1) d id = ((nth (d.args.map fun a => (aloneV m st n a, aloneB m st n a id)) 0).2 && !(nth (d.args.map fun a => (aloneV m st n a, aloneB m st n a id)) 1).2) := by
     rw [nth_map (g := fun a => (aloneV m st n a, aloneB m st n a id)) (l := d.args) (i := 0) (by omega), nth_map (g := fun a => (aloneV m st n a, aloneB m st n a id)) (l := d.args) (i := 1) (by omega)]
     conv => lhs; unfold aloneB
     rw [if_neg h1, if_pos h6]
    rw [e]
    exact FunV.of (by exact en_113) ((alone2_ok (d.args.map fun a => (aloneV m st n a, aloneB m st n a id)) id (by simpa using h2) hf).of_args (ImpL.cons Imp.refl (ImpL.cons (Imp.fp (Imp.aggs (ImpL.cons (clo_row _ _ _) ImpL.nil))) ImpL.nil)))
   ·rw [aloneV_all h1 h6]
    have e : aloneB m st (n + 1) d id = !((d.args.map fun a => (aloneV m st n a, aloneB m st n a id)).any fun q => !q.2) := by
     rw [List.any_map]
     conv => lhs; unfold aloneB
     rw [if_neg h1, if_neg h6]; rfl
    rw [e]
    exact FunV.of (by exact en_114) ((alone3_ok (d.args.map fun a => (aloneV m st n a, aloneB m st n a id)) id (by rw [List.length_map]; omega) hf).of_args (ImpL.cons Imp.refl (ImpL.cons (Imp.fp (Imp.aggs (ImpL.cons (clo_row _ _ _) ImpL.nil))) ImpL.nil)))
def metB (m : Int → Int → List UInt8 → Int → List UInt8 → Bool × Int) (st : PoolT) (s : List Int) : Nat → DepT → Bool
 | 0, _ => false
 | n + 1, d => if d.kind = 2 then !(d.args.any fun a => !metB m st s n a) else
  if d.kind = 3 then d.args.any fun a => metB m st s n a else
  if d.kind = 4 then (if metB m st s n (nth d.args 1) = true then metB m st s n (nth d.args 0) else decide ((d.args.length : Int) < 3) || metB m st s n (nth d.args 2)) else
  s.any fun id => aloneB m st (n + 1) d id
end Sv
end Go.Proofs.YtlfjokcbkopfeaaGreatDoor
end
section
namespace Go.Proofs.YtlfjokcbkopfeaaGreatDoor
open Go Go.RowKit
namespace Sv
attribute [local irreducible] SW SO holds
theorem metB_and {m : Int → Int → List UInt8 → Int → List UInt8 → Bool × Int} {st : PoolT} {s : List Int} {n : Nat} {d : DepT} (h : d.kind = 2) : metB m st s (n + 1) d = !(d.args.any fun a => !metB m st s n a) := by
 conv => lhs; unfold metB
 rw [if_pos h]
theorem metB_or {m : Int → Int → List UInt8 → Int → List UInt8 → Bool × Int} {st : PoolT} {s : List Int} {n : Nat} {d : DepT} (h : d.kind = 3) : metB m st s (n + 1) d = d.args.any fun a => metB m st s n a := by
 conv => lhs; unfold metB
 rw [if_neg (by omega), if_pos h]
theorem metB_if {m : Int → Int → List UInt8 → Int → List UInt8 → Bool × Int} {st : PoolT} {s : List Int} {n : Nat} {d : DepT} (h : d.kind = 4) : metB m st s (n + 1) d = if metB m st s n (nth d.args 1) = true then metB m st s n (nth d.args 0) else decide ((d.args.length : Int) < 3) || metB m st s n (nth d.args 2) := by
 conv => lhs; unfold metB
 rw [if_neg (by omega), if_neg (by omega), if_pos h]
theorem metB_else {m : Int → Int → List UInt8 → Int → List UInt8 → Bool × Int} {st : PoolT} {s : List Int} {n : Nat} {d : DepT} (h2 : ¬ d.kind = 2) (h3 : ¬ d.kind = 3) (h4 : ¬ d.kind = 4) : metB m st s (n + 1) d = s.any fun id => aloneB m st (n + 1) d id := by
 conv => lhs; unfold metB
 rw [if_neg h2, if_neg h3, if_neg h4]
set_option maxHeartbeats 400000 in
set_option maxRecDepth 100000 in
theorem met1_ok (st : PoolT) (s : List Int) (a : DepT) (q : Bool) (h : FnV Tryz.prog 61 [(.fp (indexX st)), (.agg [(.int .i64 (a.kind)), (.str (a.name)), (.int .i64 (a.op)), (.str (a.evr)), (.row 5 a.args.length (depAt a.args))]), nums s] (.bool q)) :
  FnV Tryz.prog 120 [(.agg [(.int .i64 a.kind), (.str a.name), (.int .i64 a.op), (.str a.evr), (.row 5 a.args.length (depAt a.args))]), (.fp (.agg [(.fp (indexX st))])), (.fp (.agg [(nums s)]))] (.bool (!q)) := by
 refine FnV_intro [.tmp 4] Tryz.func120 rfl Tryz.ntmps120 rfl rfl (fun B F hF => ?_)
 refine SW_H [] [1, 2, 3] [(1, 3)] hk0 v0 c0 ?_
 refine SW_H [] [4] [] (hk 3 en_61 h <| hk0) v0 c0 ?_
 refine SW_ret ?_
 refine RK wR [(.bool (!q))] ?_
 exact Same.of_eq (by first | rfl | (simp only [pack]; simp_all))
set_option maxHeartbeats 400000 in
set_option maxRecDepth 100000 in
theorem met2_ok (st : PoolT) (s : List Int) (a : DepT) (q : Bool) (h : FnV Tryz.prog 61 [(.fp (indexX st)), (.agg [(.int .i64 (a.kind)), (.str (a.name)), (.int .i64 (a.op)), (.str (a.evr)), (.row 5 a.args.length (depAt a.args))]), nums s] (.bool q)) :
  FnV Tryz.prog 121 [(.agg [(.int .i64 a.kind), (.str a.name), (.int .i64 a.op), (.str a.evr), (.row 5 a.args.length (depAt a.args))]), (.fp (.agg [(.fp (indexX st))])), (.fp (.agg [(nums s)]))] (.bool q) := by
 refine FnV_intro [.tmp 4] Tryz.func121 rfl Tryz.ntmps121 rfl rfl (fun B F hF => ?_)
 refine SW_H [] [1, 2, 3] [(1, 3)] hk0 v0 c0 ?_
 refine SW_H [] [4] [] (hk 3 en_61 h <| hk0) v0 c0 ?_
 refine SW_ret ?_
 refine RK wR [(.bool q)] ?_
 exact Same.of_eq (by first | rfl | (simp only [pack]; simp_all))
set_option maxHeartbeats 1000000 in
set_option maxRecDepth 100000 in
theorem met_step (m : Int → Int → List UInt8 → Int → List UInt8 → Bool × Int) (hM : MeetsOk m) (st : PoolT) (hi : IdxOk st) (s : List Int) (hs : s.length ≤ 4611686018427387904) (n : Nat) (d : DepT) (hd : d.size ≤ 4194304) (hn : d.size ≤ n + 1) (hw : woB (n + 1) d = true) (ih : ∀ i, i < d.args.length → FnV Tryz.prog 61 [(.fp (indexX st)), (.agg [(.int .i64 ((nth d.args i).kind)), (.str ((nth d.args i).name)), (.int .i64 ((nth d.args i).op)), (.str ((nth d.args i).evr)), (.row 5 (nth d.args i).args.length (depAt (nth d.args i).args))]), nums s] (.bool (metB m st s n (nth d.args i)))) :
  FnV Tryz.prog 61 [(.fp (indexX st)), (.agg [(.int .i64 d.kind), (.str d.name), (.int .i64 d.op), (.str d.evr), (.row 5 d.args.length (depAt d.args))]), (nums s)] (.bool (metB m st s (n + 1) d)) := by
 have hda := size_args d
 have hal := args_len d.args
 refine FnV_intro [.tmp 6] Tryz.func61 rfl Tryz.ntmps61 rfl rfl (fun B F hF => ?_)
 refine SW_seq ?_
 refine SW_reg ?_
 refine SO_conv 1 (.agg [(.int .i64 d.kind), (.str d.name), (.int .i64 d.op), (.str d.evr), (rowOf 5 depX d.args)]) (by kernel_rfl) (depX_open d) ?_
 refine SO_HA 0 [] [3, 4, 5] [(2, 4)] hk0 v0 c0 ?_
 refine SW_P [] [3, 4, 5, 7] ?_
 refine SW_seq ?_
 refine SW_P [] [3, 4, 5, 7, 10] ?_
 refine SW_block ?_
 refine SW_P [] [3, 4, 5, 7, 10, 11] ?_
 refine SW_if (p := d.kind = 2) (by kernel_rfl) (fun c1 => ?_) (fun c1 => ?_)
 ·refine SW_seq ?_
  refine SW_reg ?_
  refine SO_H 3 0 [] [14, 15] [] hk0 v0 c0 ?_
  refine SO_callB (s' := [(14, (rowOf 5 depX d.args)), (15, (.fn 120 [] [(.ptr 0 0), (.ptr 2 0)])), (16, (.bool (d.args.any fun a => !metB m st s n a)))]) (al := [(rowOf 5 depX d.args), (.fn 120 [] [(.ptr 0 0), (.ptr 2 0)])]) (al' := [(rowOf 5 depX d.args), (.fn 120 [] [(.fp (.agg [(.fp (indexX st))])), (.fp (.agg [(nums s)]))])]) (h' := []) (r := (.bool (d.args.any fun a => !metB m st s n a))) (by kernel_rfl) (by exact en_83) (by kernel_rfl) (by kernel_rfl) ((depF_has d.args (.fn 120 [] [.fp (.agg [.fp (indexX st)]), .fp (.agg [nums s])]) (fun a => !metB m st s n a) (by omega) (fun i hj => FunV.of (by exact en_120) (met1_ok st s (nth d.args i) (metB m st s n (nth d.args i)) (ih i hj)))).of_args (ImpL.cons Imp.refl (ImpL.cons (Imp.clo (by kernel_rfl)) ImpL.nil))) rfl (by kernel_rfl) ?_
  refine SO_HA 4 [] [6] [] hk0 v0 c0 ?_
  refine SW_ret ?_
  refine RK wR [(.bool (!(d.args.any fun a => !metB m st s n a)))] ?_
  exact Same.of_eq (by simp only [pack]; rw [metB_and (by assumption)])
 ·refine SW_P [] [3, 4, 5, 10, 18] ?_
  refine SW_if (p := d.kind = 3) (by kernel_rfl) (fun c2 => ?_) (fun c2 => ?_)
  ·refine SW_seq ?_
   refine SW_reg ?_
   refine SO_H 3 0 [] [21, 22] [] hk0 v0 c0 ?_
   refine SO_callB (s' := [(21, (rowOf 5 depX d.args)), (22, (.fn 121 [] [(.ptr 0 0), (.ptr 2 0)])), (23, (.bool (d.args.any fun a => metB m st s n a)))]) (al := [(rowOf 5 depX d.args), (.fn 121 [] [(.ptr 0 0), (.ptr 2 0)])]) (al' := [(rowOf 5 depX d.args), (.fn 121 [] [(.fp (.agg [(.fp (indexX st))])), (.fp (.agg [(nums s)]))])]) (h' := []) (r := (.bool (d.args.any fun a => metB m st s n a))) (by kernel_rfl) (by exact en_83) (by kernel_rfl) (by kernel_rfl) ((depF_has d.args (.fn 121 [] [.fp (.agg [.fp (indexX st)]), .fp (.agg [nums s])]) (fun a => metB m st s n a) (by omega) (fun i hj => FunV.of (by exact en_121) (met2_ok st s (nth d.args i) (metB m st s n (nth d.args i)) (ih i hj)))).of_args (ImpL.cons Imp.refl (ImpL.cons (Imp.clo (by kernel_rfl)) ImpL.nil))) rfl (by kernel_rfl) ?_
   refine SO_HA 4 [] [6] [] hk0 v0 c0 ?_
   refine SW_ret ?_
   refine RK wR [(.bool (d.args.any fun a => metB m st s n a))] ?_
   exact Same.of_eq (by simp only [pack]; rw [metB_or (by assumption)])
  ·refine SW_P [] [3, 4, 5, 24] ?_
   refine SW_if (p := d.kind = 4) (by kernel_rfl) (fun c3 => ?_) (fun c3 => ?_)
   ·have h2 := wo_two hw (.inr c3)
    refine SW_seq ?_
    refine SW_D [] [3, 4, 5, 32] [] (hk 6 en_61 (ih 1 (by omega)) <| hk0) v0 (cc 3 (p := (0 ≤ (1 : Int) ∧ 1 < d.args.length)) (by first | omega | (simp; omega) | (simp; done) | (intros; simp_all; omega) | (intros; simp_all; done)) <| c0) ?_
    refine SW_cond (q := metB m st s n (nth d.args 1)) (by kernel_rfl) (fun c4 => ?_) (fun c4 => ?_)
    ·try simp only [Bool.and_eq_true, Bool.or_eq_true, Bool.and_eq_false_iff, Bool.or_eq_false_iff, Bool.not_eq_true', Bool.not_eq_false', decide_eq_true_eq, decide_eq_false_iff_not] at c4
     refine SW_D [] [6] [] (hk 6 en_61 (ih 0 (by omega)) <| hk0) v0 (cc 3 (p := (0 ≤ (0 : Int) ∧ 0 < d.args.length)) (by first | omega | (simp; omega) | (simp; done) | (intros; simp_all; omega) | (intros; simp_all; done)) <| c0) ?_
     refine SW_ret ?_
     refine RK wR [(.bool (metB m st s n (nth d.args 0)))] ?_
     exact Same.of_eq (by simp only [pack]; rw [metB_if (by assumption), if_pos (by assumption)])
    ·try simp only [Bool.and_eq_true, Bool.or_eq_true, Bool.and_eq_false_iff, Bool.or_eq_false_iff, Bool.not_eq_true', Bool.not_eq_false', decide_eq_true_eq, decide_eq_false_iff_not] at c4
     refine SW_skip ?_
     refine SW_D (CS := [(7, ((!(decide ((d.args.length : Int) < 3))) = true → (!(decide ((d.args.length : Int) < 3))) = true)), (8, ((!(decide ((d.args.length : Int) < 3))) = true → ((!(decide ((d.args.length : Int) < 3))) = true) ∧ (0 ≤ (2 : Int) ∧ 2 < d.args.length))), (9, ((!(decide ((d.args.length : Int) < 3))) = true → (!(decide ((d.args.length : Int) < 3))) = true)), (11, (!(decide ((d.args.length : Int) < 3))) = true → (!(decide ((d.args.length : Int) < 3))) = true ∧ (!(decide ((d.args.length : Int) < 3))) = true ∧ (!(decide ((d.args.length : Int) < 3))) = true), (12, ((decide ((d.args.length : Int) < 3)) = false → (!(decide ((d.args.length : Int) < 3))) = true))]) [45, 46, 47, 48, 49, 50] [6] [] (hkg 11 (!(decide ((d.args.length : Int) < 3))) en_61 (fun cg => ih 2 (by simp at cg; omega)) <| hk0) v0 (by refine cc _ ?_ <| cc _ ?_ <| cc _ ?_ <| cc _ ?_ <| cc _ ?_ c0 <;> first | omega | (simp; omega) | (simp; done) | (intros; simp_all; omega) | (intros; simp_all; done)) ?_
     refine SW_ret ?_
     refine RK wR [(.bool ((decide ((d.args.length : Int) < 3)) || (metB m st s n (nth d.args 2))))] ?_
     exact Same.of_eq (by simp only [pack]; rw [metB_if (by assumption), if_neg (by simp_all)])
   ·refine SW_skip ?_
    refine SW_D [] [6] [] (hk 3 (al := [(.fp (indexX st)), (.agg [(.int .i64 d.kind), (.str d.name), (.int .i64 d.op), (.str d.evr), (rowOf 5 depX d.args)])]) en_55 ((alone_ok m hM st hi (n + 1) d hn hd).of_args (ImpL.cons Imp.refl (ImpL.cons (depX_shut d) ImpL.nil))) <| hk 4 en_59 (intF_has s (aloneV m st (n + 1) d) (fun id => aloneB m st (n + 1) d id) hs (fun i hj => alone_fun m hM st hi (nth s i) (n + 1) d hn hd hw)) <| hk0) v0 c0 ?_
    refine SW_ret ?_
    refine RK wR [(.bool (s.any fun id => aloneB m st (n + 1) d id))] ?_
    exact Same.of_eq (by simp only [pack]; rw [metB_else (by assumption) (by assumption) (by assumption)])
theorem met_ok (m : Int → Int → List UInt8 → Int → List UInt8 → Bool × Int) (hM : MeetsOk m) (st : PoolT) (hi : IdxOk st) (s : List Int) (hs : s.length ≤ 4611686018427387904) : ∀ (n : Nat) (d : DepT), d.size ≤ n → d.size ≤ 4194304 → woB n d = true → FnV Tryz.prog 61 [(.fp (indexX st)), (.agg [(.int .i64 (d.kind)), (.str (d.name)), (.int .i64 (d.op)), (.str (d.evr)), (.row 5 d.args.length (depAt d.args))]), nums s] (.bool (metB m st s n d)) := by
 intro n
 induction n with
 | zero => intro d h; have := size_args d; omega
 | succ n ih => exact fun d h hd hw => met_step m hM st hi s hs n d hd h hw fun i hj => ih _ (by have h1 := size_nth hj; omega) (by have h1 := size_nth hj; omega) (wo_arg hw hj)
end Sv
end Go.Proofs.YtlfjokcbkopfeaaGreatDoor
end
section
namespace Go.Proofs.YtlfjokcbkopfeaaGreatDoor
open Go Go.RowKit
namespace Sv
attribute [local irreducible] SW SO holds
theorem en_53 : Enters Tryz.prog 53 := enters_of Tryz.func53 (by kernel_rfl) rfl
theorem en_15 : Enters Tryz.prog 15 := enters_of Tryz.func15 (by kernel_rfl) rfl
theorem en_58 : Enters Tryz.prog 58 := enters_of Tryz.func58 (by kernel_rfl) rfl
theorem en_60 : Enters Tryz.prog 60 := enters_of Tryz.func60 (by kernel_rfl) rfl
theorem wo_form : ∀ (n : Nat) (d : DepT), formB d = true → woB n d = true := by
 intro n
 induction n with
 | zero => exact fun _ _ => rfl
 | succ n ih =>
  intro d h
  obtain ⟨k, nm, op, ev, args⟩ := d
  have all : ∀ (k : Int) (l : List DepT), argsForm k l = true → l.all (woB n) = true := by
   intro k l
   induction l with
   | nil => exact fun _ => rfl
   | cons a l ihl =>
    intro q
    simp only [argsForm, Bool.and_eq_true] at q
    rw [List.all_cons, ih a q.2.1, ihl q.2.2]; rfl
  unfold formB at h
  unfold woB
  by_cases hk : k = 1
  ·rw [if_pos hk] at h
   have h0 : args.length = 0 := by
    by_cases q : nameB nm = true ∧ 0 ≤ op ∧ op ≤ 7 ∧ args.length = 0
    ·exact q.2.2.2
    ·rw [fn_no q] at h; cases h
   obtain rfl := List.length_eq_zero_iff.1 h0
   subst hk
   rfl
  ·rw [if_neg hk] at h
   simp only [Bool.and_eq_true, Bool.not_eq_true', formBad, decide_eq_false_iff_not] at h
   have h2 : 2 ≤ args.length := by
    have := h.1
    simp only [not_or] at this
    omega
   show ((!(decide (k = 6) || decide (k = 4)) || decide (2 ≤ args.length)) && args.all (woB n)) = true
   rw [decide_eq_true h2, Bool.or_true, all k args h.2]; rfl
theorem check_form {d : DepT} (h : checkE d = 0) : formB d = true := by
 unfold checkE at h
 cases hq : formB d with
 | true => rfl
 | false => rw [hq] at h; simp at h
def readyE (d : DepT) (q : Bool) : Int := if checkE d = 0 then (if q = true then 0 else 70) else checkE d
def metR (m : Int → Int → List UInt8 → Int → List UInt8 → Bool × Int) (st : PoolT) (d : DepT) (s : List Int) : Bool × Int :=
 if checkE d = 0 then (if s.any (fun id => decide (id < 0) || decide ((st.all.length : Int) ≤ id)) = true then (false, 69) else (metB m st s d.size d, 0)) else (false, checkE d)
set_option maxHeartbeats 400000 in
set_option maxRecDepth 100000 in
theorem ready_ok (st : PoolT) (d : DepT) (a : AV) (q : Bool) (hd : d.size ≤ 4194304) (ha : FunV Tryz.prog a [.int .i64 d.kind] (.bool q)) :
  FnV Tryz.prog 53 [(.fp (indexX st)), (.agg [(.int .i64 d.kind), (.str d.name), (.int .i64 d.op), (.str d.evr), (.row 5 d.args.length (depAt d.args))]), (.clo a)] (.int .i64 (readyE d q)) := by
 refine FnV_intro [.tmp 6] Tryz.func53 rfl Tryz.ntmps53 rfl rfl (fun B F hF => ?_)
 refine SW_H [] [0, 2, 4] [(1, 4)] hk0 v0 c0 ?_
 refine SW_seq ?_
 refine SW_P [] [2, 4, 9] ?_
 refine SW_false (by kernel_rfl) ?_
 refine SW_skip ?_
 refine SW_seq ?_
 refine SW_H [] [2, 4, 7] [] (hk 1 en_22 (CheckV d hd) <| hk0) v0 c0 ?_
 refine SW_P [] [2, 4, 7, 13] ?_
 refine SW_ifn (p := (checkE d) = 0) (by kernel_rfl) (fun c1 => ?_) (fun c1 => ?_)
 ·refine SW_P [] [6] ?_
  refine SW_ret ?_
  refine RK wR [(.int .i64 (checkE d))] ?_
  exact Same.of_eq (by simp only [pack]; unfold readyE; rw [if_neg (by assumption)])
 ·refine SW_skip ?_
  refine SW_seq ?_
  refine SW_seq ?_
  refine SW_reg ?_
  refine SO_H 3 0 [] [15, 17] [] hk0 v0 c0 ?_
  refine SO_callA (s' := [(15, (.clo a)), (17, (.int .i64 d.kind)), (18, (.bool q))]) (a := (.clo a)) (al := [(.int .i64 d.kind)]) (r := (.bool q)) (by kernel_rfl) (by kernel_rfl) (by kernel_rfl) (by kernel_rfl) (by kernel_rfl) ha.clo (by kernel_rfl) ?_
  refine SO_HA 4 [] [19] [] hk0 v0 c0 ?_
  refine SW_cond (q := !q) (by kernel_rfl) (fun c2 => ?_) (fun c2 => ?_)
  ·try simp only [Bool.and_eq_true, Bool.or_eq_true, Bool.and_eq_false_iff, Bool.or_eq_false_iff, Bool.not_eq_true', Bool.not_eq_false', decide_eq_true_eq, decide_eq_false_iff_not] at c2
   refine SW_P [] [6] ?_
   refine SW_ret ?_
   refine RK wR [(.int .i64 70)] ?_
   exact Same.of_eq (by simp only [pack]; unfold readyE; rw [if_pos (by omega), if_neg (by simp_all)])
  ·try simp only [Bool.and_eq_true, Bool.or_eq_true, Bool.and_eq_false_iff, Bool.or_eq_false_iff, Bool.not_eq_true', Bool.not_eq_false', decide_eq_true_eq, decide_eq_false_iff_not] at c2
   refine SW_skip ?_
   refine SW_P [] [6] ?_
   refine SW_ret ?_
   refine RK wR [(.int .i64 0)] ?_
   exact Same.of_eq (by simp only [pack]; unfold readyE; rw [if_pos (by omega), if_pos (by simp_all)])
set_option maxHeartbeats 400000 in
set_option maxRecDepth 100000 in
theorem metTrue_ok (k : Int) :
  FnV Tryz.prog 58 [(.int .i64 k)] (.bool true) := by
 refine FnV_intro [.tmp 2] Tryz.func58 rfl Tryz.ntmps58 rfl rfl (fun B F hF => ?_)
 refine SW_P [] [] ?_
 refine SW_P [] [2] ?_
 refine SW_ret ?_
 refine RK wR [(.bool true)] ?_
 exact Same.of_eq (by first | rfl | (simp only [pack]; simp_all))
set_option maxHeartbeats 400000 in
set_option maxRecDepth 100000 in
theorem metOut_ok (st : PoolT) (id : Int) :
  FnV Tryz.prog 60 [(.int .i64 id), (.fp (.agg [(.fp (indexX st))]))] (.bool (decide (id < 0) || decide ((st.all.length : Int) ≤ id))) := by
 refine FnV_intro [.tmp 3] Tryz.func60 rfl Tryz.ntmps60 rfl rfl (fun B F hF => ?_)
 refine SW_P [] [0, 1] ?_
 obtain ⟨b1, hb1⟩ : ∃ b, b = (decide (id < 0)) := ⟨_, rfl⟩
 refine SW_H (CS := [(5, ((!b1) = true → (!b1) = true)), (6, ((!b1) = true → (!b1) = true)), (7, ((!b1) = true → (!b1) = true)), (8, ((!b1) = true → (!b1) = true ∧ (!b1) = true)), (9, (b1 = false → (!b1) = true))]) [7, 8, 9, 10, 11, 12] [3] [] hk0 (vk 3 6 (a := .bool (decide (id < 0))) (b := .bool b1) (Imp.of_eq (by rw [hb1])) <| v0) (by refine cc _ ?_ <| cc _ ?_ <| cc _ ?_ <| cc _ ?_ <| cc _ ?_ c0 <;> first | omega | (simp; omega) | (simp; done) | (intros; simp_all; omega) | (intros; simp_all; done)) ?_
 refine SW_ret ?_
 refine RK wR [(.bool (b1 || (decide ((st.all.length : Int) ≤ id))))] ?_
 subst hb1
 exact Same.of_eq (by first | rfl | (simp only [pack]; simp_all))
set_option maxHeartbeats 1000000 in
set_option maxRecDepth 100000 in
theorem Met_ok (m : Int → Int → List UInt8 → Int → List UInt8 → Bool × Int) (hM : MeetsOk m) (st : PoolT) (hi : IdxOk st) (d : DepT) (s : List Int) (hd : d.size ≤ 4194304) (hs : s.length ≤ 4611686018427387904) :
  FnV Tryz.prog 15 [(.fp (indexX st)), (.agg [(.int .i64 d.kind), (.str d.name), (.int .i64 d.op), (.str d.evr), (.row 5 d.args.length (depAt d.args))]), (nums s)] (.tup [.bool (metR m st d s).1, .int .i64 (metR m st d s).2]) := by
 refine FnV_intro [.tmp 6, .tmp 7] Tryz.func15 rfl Tryz.ntmps15 rfl rfl (fun B F hF => ?_)
 refine SW_H [] [2, 3, 4] [(2, 4)] hk0 v0 c0 ?_
 refine SW_seq ?_
 refine SW_H [] [2, 3, 4, 8] [] (hk 2 (al := [(.fp (indexX st)), (.agg [(.int .i64 d.kind), (.str d.name), (.int .i64 d.op), (.str d.evr), (.row 5 d.args.length (depAt d.args))]), (.fn 58 [] [])]) en_53 ((ready_ok st d (.fn 58 [] []) true hd (FunV.of (by exact en_58) (metTrue_ok d.kind))).of_args (ImpL.cons Imp.refl (ImpL.cons Imp.refl (ImpL.cons (Imp.clo rfl) ImpL.nil)))) <| hk0) v0 c0 ?_
 refine SW_P [] [2, 3, 4, 8, 13] ?_
 refine SW_ifn (p := (readyE d true) = 0) (by kernel_rfl) (fun c1 => ?_) (fun c1 => ?_)
 ·refine SW_P [] [6, 7] ?_
  refine SW_ret ?_
  refine RK wR [(.bool false), (.int .i64 (readyE d true))] ?_
  have hc : ¬ checkE d = 0 := by
   intro q
   have hr : readyE d true = 0 := by unfold readyE; rw [if_pos q, if_pos rfl]
   omega
  exact Same.of_eq (by simp only [pack]; unfold metR readyE; rw [if_neg hc, if_neg hc])
 ·have hc0 : checkE d = 0 := by
   by_cases q : checkE d = 0
   ·exact q
   ·have hr : readyE d true = checkE d := by unfold readyE; rw [if_neg q]
    omega
  refine SW_skip ?_
  refine SW_seq ?_
  refine SW_seq ?_
  refine SW_reg ?_
  refine SO_H 2 0 [] [2, 3, 4, 15, 16] [] hk0 v0 c0 ?_
  refine SO_callB (s' := [(2, (nums s)), (3, (.ptr 0 0)), (4, (.fp (.agg [(.int .i64 d.kind), (.str d.name), (.int .i64 d.op), (.str d.evr), (.row 5 d.args.length (depAt d.args))]))), (15, (nums s)), (16, (.fn 60 [] [(.ptr 0 0)])), (17, (.bool (s.any fun id => decide (id < 0) || decide ((st.all.length : Int) ≤ id))))]) (al := [(nums s), (.fn 60 [] [(.ptr 0 0)])]) (al' := [(nums s), (.fn 60 [] [(.fp (.agg [(.fp (indexX st))]))])]) (h' := []) (r := (.bool (s.any fun id => decide (id < 0) || decide ((st.all.length : Int) ≤ id)))) (by kernel_rfl) (by exact en_59) (by kernel_rfl) (by kernel_rfl) ((intF_has s (.fn 60 [] [.fp (.agg [.fp (indexX st)])]) (fun id => decide (id < 0) || decide ((st.all.length : Int) ≤ id)) hs (fun i hj => FunV.of (by exact en_60) (metOut_ok st (nth s i)))).of_args (ImpL.cons Imp.refl (ImpL.cons (Imp.clo (by kernel_rfl)) ImpL.nil))) rfl (by kernel_rfl) ?_
  refine SO_nil ?_
  refine SW_cond (q := s.any fun id => decide (id < 0) || decide ((st.all.length : Int) ≤ id)) (by kernel_rfl) (fun c2 => ?_) (fun c2 => ?_)
  ·try simp only [Bool.and_eq_true, Bool.or_eq_true, Bool.and_eq_false_iff, Bool.or_eq_false_iff, Bool.not_eq_true', Bool.not_eq_false', decide_eq_true_eq, decide_eq_false_iff_not] at c2
   refine SW_P [] [6, 7] ?_
   refine SW_ret ?_
   refine RK wR [(.bool false), (.int .i64 69)] ?_
   exact Same.of_eq (by simp only [pack]; unfold metR; rw [if_pos hc0, if_pos (by assumption)])
  ·try simp only [Bool.and_eq_true, Bool.or_eq_true, Bool.and_eq_false_iff, Bool.or_eq_false_iff, Bool.not_eq_true', Bool.not_eq_false', decide_eq_true_eq, decide_eq_false_iff_not] at c2
   refine SW_skip ?_
   refine SW_H [] [6, 7] [] (hk 3 en_61 (met_ok m hM st hi s hs d.size d (Nat.le_refl _) hd (wo_form _ _ (check_form hc0))) <| hk0) v0 c0 ?_
   refine SW_ret ?_
   refine RK wR [(.bool (metB m st s d.size d)), (.int .i64 0)] ?_
   exact Same.of_eq (by simp only [pack]; unfold metR; rw [if_pos hc0, if_neg (by simp_all)])
end Sv
end Go.Proofs.YtlfjokcbkopfeaaGreatDoor
end
section
namespace Go.Proofs.YtlfjokcbkopfeaaGreatDoor
open Go Go.RowKit
namespace Sv
attribute [local irreducible] SW SO holds
theorem en_13 : Enters Tryz.prog 13 := enters_of Tryz.func13 (by kernel_rfl) rfl
def singleB (k : Int) : Bool := decide (k = 1) || (decide (k = 5) || decide (k = 6))
def whoTo (m : Int → Int → List UInt8 → Int → List UInt8 → Bool × Int) (st : PoolT) (d : DepT) (i : Nat) : List Int := ((List.range i).filter fun (k : Nat) => aloneB m st d.size d (k : Int)).map fun (k : Nat) => (k : Int)
theorem whoTo_len {m : Int → Int → List UInt8 → Int → List UInt8 → Bool × Int} {st : PoolT} {d : DepT} {i : Nat} : (whoTo m st d i).length ≤ i := by
 unfold whoTo
 rw [List.length_map]
 exact Nat.le_trans (List.length_filter_le _ _) (by simp)
theorem who_yes {m : Int → Int → List UInt8 → Int → List UInt8 → Bool × Int} {st : PoolT} {d : DepT} {i : Nat} (h : aloneB m st d.size d (i : Int) = true) : (whoTo m st d (i + 1)).map (AV.int .i64) = (whoTo m st d i).map (AV.int .i64) ++ [.int .i64 (i : Int)] := by
 unfold whoTo
 rw [List.range_succ, List.filter_append, List.map_append, List.map_append]
 simp [h]
theorem who_no {m : Int → Int → List UInt8 → Int → List UInt8 → Bool × Int} {st : PoolT} {d : DepT} {i : Nat} (h : aloneB m st d.size d (i : Int) = false) : whoTo m st d (i + 1) = whoTo m st d i := by
 unfold whoTo
 rw [List.range_succ, List.filter_append, List.map_append]
 simp [h]
def whoR (m : Int → Int → List UInt8 → Int → List UInt8 → Bool × Int) (st : PoolT) (d : DepT) : List Int × Int := if readyE d (singleB d.kind) = 0 then (whoTo m st d st.all.length, 0) else ([], readyE d (singleB d.kind))
set_option maxHeartbeats 1000000 in
set_option maxRecDepth 100000 in
theorem Who_ok (m : Int → Int → List UInt8 → Int → List UInt8 → Bool × Int) (hM : MeetsOk m) (st : PoolT) (hi : IdxOk st) (d : DepT) (hd : d.size ≤ 4194304) :
  FnV Tryz.prog 13 [(.fp (indexX st)), (.agg [(.int .i64 d.kind), (.str d.name), (.int .i64 d.op), (.str d.evr), (.row 5 d.args.length (depAt d.args))])] (.tup [nums (whoR m st d).1, .int .i64 (whoR m st d).2]) := by
 have h200 := hi.1
 refine FnV_intro [.tmp 4, .tmp 5] Tryz.func13 rfl Tryz.ntmps13 rfl rfl (fun B F hF => ?_)
 refine SW_H [] [0, 3] [(1, 3)] hk0 v0 c0 ?_
 refine SW_seq ?_
 refine SW_H [] [0, 3, 6] [] (hk 2 (al := [(.fp (indexX st)), (.agg [(.int .i64 d.kind), (.str d.name), (.int .i64 d.op), (.str d.evr), (.row 5 d.args.length (depAt d.args))]), (.fn 54 [] [])]) en_53 ((ready_ok st d (.fn 54 [] []) (singleB d.kind) hd (FunV.of (by exact en_54) (single_ok d.kind))).of_args (ImpL.cons Imp.refl (ImpL.cons Imp.refl (ImpL.cons (Imp.clo rfl) ImpL.nil)))) <| hk0) v0 c0 ?_
 refine SW_P [] [0, 3, 6, 14] ?_
 refine SW_ifn (p := (readyE d (singleB d.kind)) = 0) (by kernel_rfl) (fun c1 => ?_) (fun c1 => ?_)
 ·refine SW_P [] [4, 5] ?_
  refine SW_ret ?_
  refine RK wR [.nils, (.int .i64 (readyE d (singleB d.kind)))] ?_
  simp only [pack]
  rw [show whoR m st d = ([], readyE d (singleB d.kind)) from by unfold whoR; rw [if_neg (by assumption)]]
  exact (Imp.tups (ImpL.cons Imp.nil (ImpL.cons Imp.refl ImpL.nil))).same
 ·have hc0 : checkE d = 0 := by
   by_cases q : checkE d = 0
   ·exact q
   ·have hr : readyE d (singleB d.kind) = checkE d := by unfold readyE; rw [if_neg q]
    omega
  refine SW_skip ?_
  refine SW_H [] [0, 7] [] (hk 2 en_55 (alone_ok m hM st hi d.size d (Nat.le_refl _) hd) <| hk0) v0 c0 ?_
  refine SW_P [] [0, 7, 8] ?_
  refine SW_seq ?_
  refine SW_P [] [7, 8, 22, 23] ?_
  refine SW_block ?_
  refine SW_thaw 3 1 8 (y := ⟨[(7, (.clo (aloneV m st d.size d))), (8, (.own 1)), (22, (.int .i64 ((st.all.length : Int)))), (23, (.int .i64 0))], [(1, (.grow [] 3 1))], 2⟩) (by kernel_rfl) (by kernel_rfl) ?_
  refine SW_L (fun g y => ∃ (i : Nat), i ≤ st.all.length ∧ y = ⟨[(7, (.clo (aloneV m st d.size d))), (8, (.own 1)), (22, (.int .i64 ((st.all.length : Int)))), (23, (.int .i64 ((i : Int))))], [(1, (.grow ((whoTo m st d i).map (AV.int .i64)) 3 1))], 2⟩ ∧ g = st.all.length - i) [7, 8, 22, 23] 2 _ (by omega) ⟨0, (by omega), (by kernel_rfl), rfl⟩ ?_
  rintro g1 y1 ⟨i, f1_1, rfl, rfl⟩
  have hwl := whoTo_len (m := m) (st := st) (d := d) (i := i)
  have hwm : ((whoTo m st d i).map (AV.int .i64)).length = (whoTo m st d i).length := List.length_map _
  refine SW_P [] [7, 8, 22, 23, 24] ?_
  refine SW_seq ?_
  refine SW_if (p := (i : Int) < (st.all.length : Int)) (by kernel_rfl) (fun c2 => ?_) (fun c2 => ?_)
  ·refine SW_skip ?_
   refine SW_seq ?_
   refine SW_block ?_
   refine SW_P [] [7, 8, 9, 22, 23] ?_
   refine SW_seq ?_
   refine SW_reg ?_
   refine SO_H 2 0 [] [7, 8, 9, 22, 23, 26, 27] [] hk0 v0 c0 ?_
   refine SO_callA (s' := [(7, (.clo (aloneV m st d.size d))), (8, (.own 1)), (9, (.int .i64 ((i : Int)))), (22, (.int .i64 ((st.all.length : Int)))), (23, (.int .i64 ((i : Int)))), (26, (.clo (aloneV m st d.size d))), (27, (.int .i64 ((i : Int)))), (28, (.bool (aloneB m st d.size d (i : Int))))]) (a := (.clo (aloneV m st d.size d))) (al := [(.int .i64 ((i : Int)))]) (r := (.bool (aloneB m st d.size d (i : Int)))) (by kernel_rfl) (by kernel_rfl) (by kernel_rfl) (by kernel_rfl) (by kernel_rfl) ((alone_fun m hM st hi (i : Int) d.size d (Nat.le_refl _) hd (wo_form _ _ (check_form hc0))).clo) (by kernel_rfl) ?_
   refine SO_nil ?_
   refine SW_cond (q := aloneB m st d.size d (i : Int)) (by kernel_rfl) (fun c3 => ?_) (fun c3 => ?_)
   ·try simp only [Bool.and_eq_true, Bool.or_eq_true, Bool.and_eq_false_iff, Bool.or_eq_false_iff, Bool.not_eq_true', Bool.not_eq_false', decide_eq_true_eq, decide_eq_false_iff_not] at c3
    refine SW_reg ?_
    refine SO_HA 0 [] [7, 8, 22, 23] [] hk0 v0 (cc 3 (p := ((((whoTo m st d i).map (AV.int .i64)).length + 1) * 8 ≤ 140737488355328)) (by first | omega | (simp; omega) | (simp; done) | (intros; simp_all; omega) | (intros; simp_all; done)) <| c0) ?_
    refine SW_reg ?_
    refine SO_HA 0 [] [7, 8, 22, 23] [] hk0 v0 (cc 0 (p := (-9223372036854775808 ≤ (i : Int) + 1 ∧ (i : Int) + 1 ≤ 9223372036854775807)) (by first | omega | (simp; omega) | (simp; done) | (intros; simp_all; omega) | (intros; simp_all; done)) <| c0) ?_
    refine ⟨by kernel_rfl, _, ?_, i + 1, ?_, (Eq.trans (b := (⟨[(7, (.clo (aloneV m st d.size d))), (8, (.own 1)), (22, (.int .i64 ((st.all.length : Int)))), (23, (.int .i64 ((i : Int) + 1)))], [(1, (.grow (((whoTo m st d i).map (AV.int .i64)) ++ ([(.int .i64 ((i : Int)))] : List AV)) 3 1))], 2⟩ : St)) (by kernel_rfl) (by rw [who_yes (by assumption)] <;> kernel_rfl)), rfl⟩
    ·omega
    ·omega
   ·try simp only [Bool.and_eq_true, Bool.or_eq_true, Bool.and_eq_false_iff, Bool.or_eq_false_iff, Bool.not_eq_true', Bool.not_eq_false', decide_eq_true_eq, decide_eq_false_iff_not] at c3
    refine SW_skip ?_
    refine SW_reg ?_
    refine SO_HA 0 [] [7, 8, 22, 23] [] hk0 v0 (cc 0 (p := (-9223372036854775808 ≤ (i : Int) + 1 ∧ (i : Int) + 1 ≤ 9223372036854775807)) (by first | omega | (simp; omega) | (simp; done) | (intros; simp_all; omega) | (intros; simp_all; done)) <| c0) ?_
    refine ⟨by kernel_rfl, _, ?_, i + 1, ?_, (Eq.trans (b := (⟨[(7, (.clo (aloneV m st d.size d))), (8, (.own 1)), (22, (.int .i64 ((st.all.length : Int)))), (23, (.int .i64 ((i : Int) + 1)))], [(1, (.grow ((whoTo m st d i).map (AV.int .i64)) 3 1))], 2⟩ : St)) (by kernel_rfl) (by rw [who_no (by assumption)] <;> kernel_rfl)), rfl⟩
    ·omega
    ·omega
  ·refine SW_exit ?_
   refine SW_P [] [4, 5] ?_
   refine SW_ret ?_
   refine RK wR [(.row 1 ((whoTo m st d i).map (AV.int .i64)).length (fun ix => ((whoTo m st d i).map (AV.int .i64)).getD ix junk)), (.int .i64 0)] ?_
   rw [show i = st.all.length from by omega]
   simp only [pack]
   rw [show whoR m st d = (whoTo m st d st.all.length, 0) from by unfold whoR; rw [if_pos (by omega)]]
   exact (Imp.tups (ImpL.cons (Imp.list (f := AV.int .i64) (List.length_map _)) (ImpL.cons Imp.refl ImpL.nil))).same
end Sv
end Go.Proofs.YtlfjokcbkopfeaaGreatDoor
end
section
namespace Go.Proofs.YtlfjokcbkopfeaaGreatDoor
open Go Go.RowKit
namespace Sv
attribute [local irreducible] SW SO holds
theorem en_194 : Enters Tryz.prog 194 := enters_of Tryz.func194 (by kernel_rfl) rfl
theorem en_130 : Enters Tryz.prog 130 := enters_of Tryz.func130 (by kernel_rfl) rfl
theorem en_216 : Enters Tryz.prog 216 := enters_of Tryz.func216 (by kernel_rfl) rfl
theorem en_136 : Enters Tryz.prog 136 := enters_of Tryz.func136 (by kernel_rfl) rfl
theorem en_195 : Enters Tryz.prog 195 := enters_of Tryz.func195 (by kernel_rfl) rfl
theorem en_163 : Enters Tryz.prog 163 := enters_of Tryz.func163 (by kernel_rfl) rfl
theorem en_164 : Enters Tryz.prog 164 := enters_of Tryz.func164 (by kernel_rfl) rfl
def cmpI (a b : Int) : Int := if a < b then -1 else if b < a then 1 else 0
def orI (a b : Int) : Int := if a = 0 then b else a
def numbersN (a b : List UInt8) : Int := orI (cmpI ((Lib.trimLeftB a 48).length : Int) ((Lib.trimLeftB b 48).length : Int)) (Lib.compareBytes (Lib.trimLeftB a 48) (Lib.trimLeftB b 48))
theorem weightN_pos {s : List UInt8} (h : weightN s ≠ 0) : 1 ≤ s.length := by
 cases s with
 | nil => exact absurd (by unfold weightN; rw [if_pos (.inl rfl)]) h
 | cons a r => simp
theorem weight_zero {s : List UInt8} (h : weightN s = 0) : s.length = 0 ∨ 1 ≤ countN digitD s := by
 cases s with
 | nil => exact .inl rfl
 | cons a r =>
  right
  unfold weightN at h
  have hb : byteAt (a :: r) 0 = a := by simp [byteAt]
  rw [hb] at h
  by_cases hd : digitD a = true
  ·unfold countN; rw [List.takeWhile_cons, hd]; simp
  ·rw [if_neg (by simp [hd])] at h
   split at h
   ·omega
   ·split at h
    ·rename_i hl
     have : a.toNat = 0 := by omega
     unfold letterD at hl; rw [this] at hl; simp at hl
    ·omega
theorem drop_len {s : List UInt8} {i : Nat} (h : ¬ s.drop i = []) : 1 ≤ s.length - i := by
 have := List.length_pos_iff.2 h
 rw [List.length_drop] at this; exact this
def debF : Nat → List UInt8 → List UInt8 → Int
 | 0, _, _ => 0
 | n + 1, a, b =>
  if weightN a ≠ 0 ∨ weightN b ≠ 0 then (if weightN a ≠ weightN b then cmpI (weightN a) (weightN b) else debF n (a.drop 1) (b.drop 1))
  else if numbersN (a.take (countN digitD a)) (b.take (countN digitD b)) ≠ 0 then numbersN (a.take (countN digitD a)) (b.take (countN digitD b))
  else if a.drop (countN digitD a) ≠ [] ∨ b.drop (countN digitD b) ≠ [] then debF n (a.drop (countN digitD a)) (b.drop (countN digitD b)) else 0
set_option maxHeartbeats 400000 in
set_option maxRecDepth 100000 in
theorem isNaN_ok (x : Int) :
  FnV Tryz.prog 216 [(.int .i64 x)] (.bool false) := by
 refine FnV_intro [.tmp 2] Tryz.func216 rfl Tryz.ntmps216 rfl rfl (fun B F hF => ?_)
 refine SW_P [] [0] ?_
 refine SW_P [] [2] ?_
 refine SW_ret ?_
 refine RK wR [(.bool (!decide (x = x)))] ?_
 exact Same.of_eq (by simp only [pack]; simp)
set_option maxHeartbeats 400000 in
set_option maxRecDepth 100000 in
theorem cmp_ok (x y : Int) :
  FnV Tryz.prog 194 [(.int .i64 x), (.int .i64 y)] (.int .i64 (cmpI x y)) := by
 refine FnV_intro [.tmp 4] Tryz.func194 rfl Tryz.ntmps194 rfl rfl (fun B F hF => ?_)
 refine SW_P [] [0, 1] ?_
 refine SW_H [] [0, 1, 5] [] (hk 1 en_216 (isNaN_ok x) <| hk0) v0 c0 ?_
 refine SW_H [] [0, 1, 5, 6] [] (hk 1 en_216 (isNaN_ok y) <| hk0) v0 c0 ?_
 refine SW_seq ?_
 refine SW_P [] [0, 1, 6, 11] ?_
 refine SW_false (by kernel_rfl) ?_
 refine SW_skip ?_
 refine SW_seq ?_
 refine SW_P [] [0, 1, 13] ?_
 refine SW_false (by kernel_rfl) ?_
 refine SW_skip ?_
 refine SW_seq ?_
 refine SW_P [] [0, 1, 16] ?_
 refine SW_if (p := x < y) (by kernel_rfl) (fun c1 => ?_) (fun c1 => ?_)
 ·refine SW_P [] [4] ?_
  refine SW_ret ?_
  refine RK wR [(.int .i64 (-1))] ?_
  exact Same.of_eq (by simp only [pack]; unfold cmpI; rw [if_pos (by assumption)])
 ·refine SW_skip ?_
  refine SW_seq ?_
  refine SW_P [] [19] ?_
  refine SW_if (p := y < x) (by kernel_rfl) (fun c2 => ?_) (fun c2 => ?_)
  ·refine SW_P [] [4] ?_
   refine SW_ret ?_
   refine RK wR [(.int .i64 1)] ?_
   exact Same.of_eq (by simp only [pack]; unfold cmpI; rw [if_neg (by assumption), if_pos (by assumption)])
  ·refine SW_skip ?_
   refine SW_P [] [4] ?_
   refine SW_ret ?_
   refine RK wR [(.int .i64 0)] ?_
   exact Same.of_eq (by simp only [pack]; unfold cmpI; rw [if_neg (by assumption), if_neg (by assumption)])
set_option maxHeartbeats 400000 in
set_option maxRecDepth 100000 in
theorem or_ok (x y : Int) :
  FnV Tryz.prog 130 [(nums [x, y])] (.int .i64 (orI x y)) := by
 refine FnV_intro [.tmp 2] Tryz.func130 rfl Tryz.ntmps130 rfl rfl (fun B F hF => ?_)
 refine SW_P [] [0] ?_
 refine SW_P [] [0, 3] ?_
 refine SW_seq ?_
 refine SW_P [] [3, 6, 7, 8] ?_
 refine SW_block ?_
 refine SW_rounds 3 ?_
 refine SR_round ?_
 refine SW_P [] [3, 6, 7, 8, 9] ?_
 refine SW_seq ?_
 refine SW_true (by kernel_rfl) ?_
 refine SW_skip ?_
 refine SW_seq ?_
 refine SW_block ?_
 refine SW_H [] [3, 5, 6, 7, 8] [] hk0 v0 (cc 0 (p := (0 ≤ (0 : Int) ∧ 0 < 2)) (by first | omega | (simp; omega) | (simp; done) | (intros; simp_all; omega) | (intros; simp_all; done)) <| c0) ?_
 refine SW_P [] [3, 5, 6, 7, 8, 14] ?_
 refine SW_ifn (p := x = 0) (by kernel_rfl) (fun c1 => ?_) (fun c1 => ?_)
 ·refine SW_P [] [2] ?_
  refine SW_ret ?_
  refine RK wR [(.int .i64 x)] ?_
  exact Same.of_eq (by simp only [pack]; unfold orI; rw [if_neg (by assumption)])
 ·refine SW_skip ?_
  refine SW_reg ?_
  refine SO_HA 0 [] [3, 6, 7, 8] [] hk0 v0 (cc 0 (p := (-9223372036854775808 ≤ (1 : Int) ∧ (1 : Int) ≤ 9223372036854775807)) (by first | omega | (simp; omega) | (simp; done) | (intros; simp_all; omega) | (intros; simp_all; done)) <| c0) ?_
  refine SR_round ?_
  refine SW_P [] [3, 6, 7, 8, 9] ?_
  refine SW_seq ?_
  refine SW_true (by kernel_rfl) ?_
  refine SW_skip ?_
  refine SW_seq ?_
  refine SW_block ?_
  refine SW_H [] [3, 5, 6, 7, 8] [] hk0 v0 (cc 0 (p := (0 ≤ (1 : Int) ∧ 1 < 2)) (by first | omega | (simp; omega) | (simp; done) | (intros; simp_all; omega) | (intros; simp_all; done)) <| c0) ?_
  refine SW_P [] [3, 5, 6, 7, 8, 14] ?_
  refine SW_ifn (p := y = 0) (by kernel_rfl) (fun c2 => ?_) (fun c2 => ?_)
  ·refine SW_P [] [2] ?_
   refine SW_ret ?_
   refine RK wR [(.int .i64 y)] ?_
   exact Same.of_eq (by simp only [pack]; unfold orI; rw [if_pos (by simp_all)] <;> rfl)
  ·refine SW_skip ?_
   refine SW_reg ?_
   refine SO_HA 0 [] [3, 6, 7, 8] [] hk0 v0 (cc 0 (p := (-9223372036854775808 ≤ (2 : Int) ∧ (2 : Int) ≤ 9223372036854775807)) (by first | omega | (simp; omega) | (simp; done) | (intros; simp_all; omega) | (intros; simp_all; done)) <| c0) ?_
   refine SR_round ?_
   refine SW_P [] [3, 6, 7, 8, 9] ?_
   refine SW_seq ?_
   refine SW_false (by kernel_rfl) ?_
   refine SW_exit ?_
   refine SW_P [] [2] ?_
   refine SW_ret ?_
   refine RK wR [(.int .i64 0)] ?_
   exact Same.of_eq (by simp only [pack]; unfold orI; rw [if_pos (by simp_all)] <;> simp_all)
set_option maxHeartbeats 400000 in
set_option maxRecDepth 100000 in
theorem numbers_ok (a b : List UInt8) :
  FnV Tryz.prog 163 [(.str a), (.str b)] (.int .i64 (numbersN a b)) := by
 refine FnV_intro [.tmp 4] Tryz.func163 rfl Tryz.ntmps163 rfl rfl (fun B F hF => ?_)
 refine SW_P [] [0, 1] ?_
 refine SW_H [] [0, 1] [] (hk 1 en_136 (TrimLeftV a 48 (by decide)) <| hk 3 en_136 (TrimLeftV b 48 (by decide)) <| hk0) v0 c0 ?_
 refine SW_H [] [4] [(9, 17)] (hk 4 en_194 (cmp_ok ((Lib.trimLeftB a 48).length : Int) ((Lib.trimLeftB b 48).length : Int)) <| hk 7 en_195 (CompareV (Lib.trimLeftB a 48) (Lib.trimLeftB b 48)) <| hk 9 en_130 (or_ok (cmpI ((Lib.trimLeftB a 48).length : Int) ((Lib.trimLeftB b 48).length : Int)) (Lib.compareBytes (Lib.trimLeftB a 48) (Lib.trimLeftB b 48))) <| hk0) (vk 9 17 (b := (nums [cmpI ((Lib.trimLeftB a 48).length : Int) ((Lib.trimLeftB b 48).length : Int), Lib.compareBytes (Lib.trimLeftB a 48) (Lib.trimLeftB b 48)])) (Imp.list (f := AV.int .i64) rfl) <| v0) c0 ?_
 refine SW_ret ?_
 refine RK wR [(.int .i64 (numbersN a b))] ?_
 exact Same.of_eq (by first | rfl | (simp only [pack]; simp_all))
set_option maxHeartbeats 1000000 in
set_option maxRecDepth 100000 in
theorem deb_ok (n : Nat) (a0 b0 : List UInt8) (h0 : a0.length + b0.length < n) (ha : a0.length ≤ 4194304) (hb : b0.length ≤ 4194304) :
  FnV Tryz.prog 164 [(.str a0), (.str b0)] (.int .i64 (debF n a0 b0)) := by
 refine FnV_intro [.tmp 4] Tryz.func164 rfl Tryz.ntmps164 rfl rfl (fun B F hF => ?_)
 refine SW_P [] [0, 1] ?_
 refine SW_scopeg 0 rfl (fun g y => ∃ (k : Nat) (a : List UInt8) (b : List UInt8), a.length + b.length < k ∧ a.length ≤ 4194304 ∧ b.length ≤ 4194304 ∧ debF n a0 b0 = debF k a b ∧ y = ⟨[(0, (.str a)), (1, (.str b))], [], 0⟩ ∧ g = k) [0, 1] 0 (by omega) (fun hJ0 => ?_) ?_
 ·refine SW_seq ?_
  refine SW_label ?_
  refine SW_gc (y := ⟨[(0, (.str a0)), (1, (.str b0))], [], 0⟩) [0, 1] 0 (by omega) (by kernel_rfl) (hJ0 _ _ ⟨n, a0, b0, (by omega), (by omega), (by omega), (by rfl), (by kernel_rfl), rfl⟩)
 ·rintro g y ⟨k, a, b, fl0_1, fl0_2, fl0_3, fl0_4, rfl, rfl⟩
  have hca := countN_le digitD a
  have hcb := countN_le digitD b
  refine SW_seq ?_
  refine SW_H [] [0, 1, 5, 6] [] (hk 1 en_196 (weight_ok a) <| hk 3 en_196 (weight_ok b) <| hk0) v0 c0 ?_
  obtain ⟨b1, hb1⟩ : ∃ b, b = (!decide ((weightN a) = 0)) := ⟨_, rfl⟩
  refine SW_H (CS := [(4, ((!b1) = true → (!b1) = true)), (5, (b1 = false → (!b1) = true))]) [17, 18] [0, 1, 5, 6, 19] [] hk0 (vk 3 16 (a := .bool (!decide ((weightN a) = 0))) (b := .bool b1) (Imp.of_eq (by rw [hb1])) <| v0) (by refine cc _ ?_ <| cc _ ?_ c0 <;> first | omega | (simp; omega) | (simp; done) | (intros; simp_all; omega) | (intros; simp_all; done)) ?_
  refine SW_cond (q := b1 || (!decide ((weightN b) = 0))) (by kernel_rfl) (fun c1 => ?_) (fun c1 => ?_)
  ·subst hb1
   try simp only [Bool.and_eq_true, Bool.or_eq_true, Bool.and_eq_false_iff, Bool.or_eq_false_iff, Bool.not_eq_true', Bool.not_eq_false', decide_eq_true_eq, decide_eq_false_iff_not] at c1
   refine SW_seq ?_
   refine SW_P [] [0, 1, 5, 6, 22] ?_
   refine SW_ifn (p := (weightN a) = (weightN b)) (by kernel_rfl) (fun c2 => ?_) (fun c2 => ?_)
   ·refine SW_H [] [4] [] (hk 2 en_194 (cmp_ok (weightN a) (weightN b)) <| hk0) v0 c0 ?_
    refine SW_ret ?_
    refine RK wR [(.int .i64 (cmpI (weightN a) (weightN b)))] ?_
    refine Same.of_eq ?_
    simp only [pack]
    rw [fl0_4]
    obtain ⟨k, rfl⟩ : ∃ q, g = q + 1 := ⟨g - 1, by omega⟩
    try simp only [List.take_length, List.drop_zero] at *
    unfold debF
    rw [if_pos (by assumption), if_pos (by assumption)]
   ·have hpa := weightN_pos (s := a) (by omega)
    have hpb := weightN_pos (s := b) (by omega)
    refine SW_skip ?_
    refine SW_D (CS := [(1, (0 ≤ (1 : Int) ∧ (1 : Int) ≤ (a.length : Int) ∧ (a.length : Int) ≤ (a.length : Int))), (3, (0 ≤ (1 : Int) ∧ (1 : Int) ≤ (b.length : Int) ∧ (b.length : Int) ≤ (b.length : Int)))]) [] [0, 1] [] hk0 v0 (by refine cc _ ?_ <| cc _ ?_ c0 <;> first | omega | (simp; omega) | (simp; done) | (intros; simp_all; omega) | (intros; simp_all; done)) ?_
    have hza := fun h => weight_zero (s := a) h
    have hzb := fun h => weight_zero (s := b) h
    refine SW_goto ⟨rfl, _, (by kernel_rfl : gcS _ _ _ = some ⟨[(0, (.str ((a.take a.length).drop 1))), (1, (.str ((b.take b.length).drop 1)))], [], 0⟩), _, ?_, g - 1, ((a.take a.length).drop 1), ((b.take b.length).drop 1), ?_, ?_, ?_, ?_, (by kernel_rfl), rfl⟩
    all_goals (obtain ⟨k, rfl⟩ : ∃ q, g = q + 1 := ⟨g - 1, by omega⟩)
    all_goals try simp only [List.take_length, List.drop_zero, List.length_drop] at *
    all_goals have hdec : a.length = 0 → b.length = 0 → False := fun e1 e2 => by first | omega | (rcases c4 with h | h <;> have := drop_len h <;> omega)
    ·first | omega | (have h1 := hza (by omega); have h2 := hzb (by omega); have h3 : ¬ (a.length = 0 ∧ b.length = 0) := fun e => hdec e.1 e.2; omega)
    ·first | omega | (have h1 := hza (by omega); have h2 := hzb (by omega); have h3 : ¬ (a.length = 0 ∧ b.length = 0) := fun e => hdec e.1 e.2; omega)
    ·omega
    ·omega
    ·rw [fl0_4]
     conv => lhs; unfold debF
     first | (rw [if_pos (by assumption), if_neg (by omega)]; rfl) | (rw [if_neg (by omega), if_neg (by omega), if_pos (by simp_all)]; rfl)
  ·subst hb1
   try simp only [Bool.and_eq_true, Bool.or_eq_true, Bool.and_eq_false_iff, Bool.or_eq_false_iff, Bool.not_eq_true', Bool.not_eq_false', decide_eq_true_eq, decide_eq_false_iff_not] at c1
   refine SW_skip ?_
   refine SW_H [] [0, 1, 7, 8] [] (hk 1 (al := [(.str a), (.fn 148 [] [])]) en_151 ((countV_ok a (.fn 148 [] []) digitD (by omega) (fun c => FunV.of (by exact en_148) (digitV_ok c))).of_args (ImpL.cons Imp.refl (ImpL.cons (Imp.clo rfl) ImpL.nil))) <| hk 3 (al := [(.str b), (.fn 148 [] [])]) en_151 ((countV_ok b (.fn 148 [] []) digitD (by omega) (fun c => FunV.of (by exact en_148) (digitV_ok c))).of_args (ImpL.cons Imp.refl (ImpL.cons (Imp.clo rfl) ImpL.nil))) <| hk0) v0 c0 ?_
   refine SW_seq ?_
   refine SW_D (CS := [(2, (0 ≤ (0 : Int) ∧ (0 : Int) ≤ (countN digitD a : Int) ∧ (countN digitD a : Int) ≤ (a.length : Int))), (5, (0 ≤ (0 : Int) ∧ (0 : Int) ≤ (countN digitD b : Int) ∧ (countN digitD b : Int) ≤ (b.length : Int)))]) [] [0, 1, 7, 8, 9] [] (hk 6 en_163 (numbers_ok ((a.take (countN digitD a)).drop 0) ((b.take (countN digitD b)).drop 0)) <| hk0) v0 (by refine cc _ ?_ <| cc _ ?_ c0 <;> first | omega | (simp; omega) | (simp; done) | (intros; simp_all; omega) | (intros; simp_all; done)) ?_
   refine SW_P [] [0, 1, 7, 8, 9, 42] ?_
   refine SW_ifn (p := (numbersN ((a.take (countN digitD a)).drop 0) ((b.take (countN digitD b)).drop 0)) = 0) (by kernel_rfl) (fun c3 => ?_) (fun c3 => ?_)
   ·refine SW_P [] [4] ?_
    refine SW_ret ?_
    refine RK wR [(.int .i64 (numbersN ((a.take (countN digitD a)).drop 0) ((b.take (countN digitD b)).drop 0)))] ?_
    refine Same.of_eq ?_
    simp only [pack]
    rw [fl0_4]
    obtain ⟨k, rfl⟩ : ∃ q, g = q + 1 := ⟨g - 1, by omega⟩
    try simp only [List.take_length, List.drop_zero] at *
    unfold debF
    rw [if_neg (by omega), if_pos (by assumption)]
   ·refine SW_skip ?_
    refine SW_seq ?_
    refine SW_D (CS := [(2, (0 ≤ (countN digitD a : Int) ∧ (countN digitD a : Int) ≤ (a.length : Int) ∧ (a.length : Int) ≤ (a.length : Int))), (5, (0 ≤ (countN digitD b : Int) ∧ (countN digitD b : Int) ≤ (b.length : Int) ∧ (b.length : Int) ≤ (b.length : Int)))]) [] [0, 1] [] hk0 v0 (by refine cc _ ?_ <| cc _ ?_ c0 <;> first | omega | (simp; omega) | (simp; done) | (intros; simp_all; omega) | (intros; simp_all; done)) ?_
    obtain ⟨b2, hb2⟩ : ∃ b, b = (!decide ((a.take a.length).drop (countN digitD a) = [])) := ⟨_, rfl⟩
    refine SW_H (CS := [(4, ((!b2) = true → (!b2) = true)), (5, (b2 = false → (!b2) = true))]) [53, 54] [0, 1, 55] [] hk0 (vk 3 52 (a := .bool (!decide ((a.take a.length).drop (countN digitD a) = []))) (b := .bool b2) (Imp.of_eq (by rw [hb2])) <| v0) (by refine cc _ ?_ <| cc _ ?_ c0 <;> first | omega | (simp; omega) | (simp; done) | (intros; simp_all; omega) | (intros; simp_all; done)) ?_
    refine SW_cond (q := b2 || (!decide ((b.take b.length).drop (countN digitD b) = []))) (by kernel_rfl) (fun c4 => ?_) (fun c4 => ?_)
    ·subst hb2
     try simp only [Bool.and_eq_true, Bool.or_eq_true, Bool.and_eq_false_iff, Bool.or_eq_false_iff, Bool.not_eq_true', Bool.not_eq_false', decide_eq_true_eq, decide_eq_false_iff_not] at c4
     have hza := fun h => weight_zero (s := a) h
     have hzb := fun h => weight_zero (s := b) h
     refine SW_goto ⟨rfl, _, (by kernel_rfl : gcS _ _ _ = some ⟨[(0, (.str ((a.take a.length).drop (countN digitD a)))), (1, (.str ((b.take b.length).drop (countN digitD b))))], [], 0⟩), _, ?_, g - 1, ((a.take a.length).drop (countN digitD a)), ((b.take b.length).drop (countN digitD b)), ?_, ?_, ?_, ?_, (by kernel_rfl), rfl⟩
     all_goals (obtain ⟨k, rfl⟩ : ∃ q, g = q + 1 := ⟨g - 1, by omega⟩)
     all_goals try simp only [List.take_length, List.drop_zero, List.length_drop] at *
     all_goals have hdec : a.length = 0 → b.length = 0 → False := fun e1 e2 => by first | omega | (rcases c4 with h | h <;> have := drop_len h <;> omega)
     ·first | omega | (have h1 := hza (by omega); have h2 := hzb (by omega); have h3 : ¬ (a.length = 0 ∧ b.length = 0) := fun e => hdec e.1 e.2; omega)
     ·first | omega | (have h1 := hza (by omega); have h2 := hzb (by omega); have h3 : ¬ (a.length = 0 ∧ b.length = 0) := fun e => hdec e.1 e.2; omega)
     ·omega
     ·omega
     ·rw [fl0_4]
      conv => lhs; unfold debF
      first | (rw [if_pos (by assumption), if_neg (by omega)]; rfl) | (rw [if_neg (by omega), if_neg (by omega), if_pos (by simp_all)]; rfl)
    ·subst hb2
     try simp only [Bool.and_eq_true, Bool.or_eq_true, Bool.and_eq_false_iff, Bool.or_eq_false_iff, Bool.not_eq_true', Bool.not_eq_false', decide_eq_true_eq, decide_eq_false_iff_not] at c4
     refine SW_skip ?_
     refine SW_P [] [4] ?_
     refine SW_ret ?_
     refine RK wR [(.int .i64 0)] ?_
     refine Same.of_eq ?_
     simp only [pack]
     rw [fl0_4]
     obtain ⟨k, rfl⟩ : ∃ q, g = q + 1 := ⟨g - 1, by omega⟩
     try simp only [List.take_length, List.drop_zero] at *
     unfold debF
     rw [if_neg (by omega), if_neg (by omega), if_neg (by simp_all)]
end Sv
end Go.Proofs.YtlfjokcbkopfeaaGreatDoor
end
section
namespace Go.Proofs.YtlfjokcbkopfeaaGreatDoor
open Go Go.RowKit
namespace Sv
attribute [local irreducible] SW SO holds
theorem en_165 : Enters Tryz.prog 165 := enters_of Tryz.func165 (by kernel_rfl) rfl
theorem en_129 : Enters Tryz.prog 129 := enters_of Tryz.func129 (by kernel_rfl) rfl
def orS (x y : List UInt8) : List UInt8 := if x = [] then y else x
def bothR (k : Int) (a b : List UInt8) : (List UInt8 × List UInt8 × List UInt8) × (List UInt8 × List UInt8 × List UInt8) × Int :=
 if k ≠ 1 ∧ k ≠ 2 then (([], [], []), ([], [], []), 1) else if evrE a = 0 then (evrP a, evrP b, evrE b) else (evrP a, ([], [], []), evrE a)
set_option maxHeartbeats 400000 in
set_option maxRecDepth 100000 in
theorem orS_ok (x y : List UInt8) :
  FnV Tryz.prog 165 [(strs [x, y])] (.str (orS x y)) := by
 refine FnV_intro [.tmp 2] Tryz.func165 rfl Tryz.ntmps165 rfl rfl (fun B F hF => ?_)
 refine SW_P [] [0] ?_
 refine SW_P [] [0, 3] ?_
 refine SW_seq ?_
 refine SW_P [] [3, 6, 7, 8] ?_
 refine SW_block ?_
 refine SW_rounds 3 ?_
 refine SR_round ?_
 refine SW_P [] [3, 6, 7, 8, 9] ?_
 refine SW_seq ?_
 refine SW_true (by kernel_rfl) ?_
 refine SW_skip ?_
 refine SW_seq ?_
 refine SW_block ?_
 refine SW_H [] [3, 5, 6, 7, 8] [] hk0 v0 (cc 0 (p := (0 ≤ (0 : Int) ∧ 0 < 2)) (by first | omega | (simp; omega) | (simp; done) | (intros; simp_all; omega) | (intros; simp_all; done)) <| c0) ?_
 refine SW_P [] [3, 5, 6, 7, 8, 14] ?_
 refine SW_ifn (p := x = []) (by kernel_rfl) (fun c1 => ?_) (fun c1 => ?_)
 ·refine SW_P [] [2] ?_
  refine SW_ret ?_
  refine RK wR [(.str x)] ?_
  exact Same.of_eq (by simp only [pack]; unfold orS; rw [if_neg (by assumption)])
 ·refine SW_skip ?_
  refine SW_reg ?_
  refine SO_HA 0 [] [3, 6, 7, 8] [] hk0 v0 (cc 0 (p := (-9223372036854775808 ≤ (1 : Int) ∧ (1 : Int) ≤ 9223372036854775807)) (by first | omega | (simp; omega) | (simp; done) | (intros; simp_all; omega) | (intros; simp_all; done)) <| c0) ?_
  refine SR_round ?_
  refine SW_P [] [3, 6, 7, 8, 9] ?_
  refine SW_seq ?_
  refine SW_true (by kernel_rfl) ?_
  refine SW_skip ?_
  refine SW_seq ?_
  refine SW_block ?_
  refine SW_H [] [3, 5, 6, 7, 8] [] hk0 v0 (cc 0 (p := (0 ≤ (1 : Int) ∧ 1 < 2)) (by first | omega | (simp; omega) | (simp; done) | (intros; simp_all; omega) | (intros; simp_all; done)) <| c0) ?_
  refine SW_P [] [3, 5, 6, 7, 8, 14] ?_
  refine SW_ifn (p := y = []) (by kernel_rfl) (fun c2 => ?_) (fun c2 => ?_)
  ·refine SW_P [] [2] ?_
   refine SW_ret ?_
   refine RK wR [(.str y)] ?_
   exact Same.of_eq (by simp only [pack]; unfold orS; rw [if_pos (by simp_all)] <;> rfl)
  ·refine SW_skip ?_
   refine SW_reg ?_
   refine SO_HA 0 [] [3, 6, 7, 8] [] hk0 v0 (cc 0 (p := (-9223372036854775808 ≤ (2 : Int) ∧ (2 : Int) ≤ 9223372036854775807)) (by first | omega | (simp; omega) | (simp; done) | (intros; simp_all; omega) | (intros; simp_all; done)) <| c0) ?_
   refine SR_round ?_
   refine SW_P [] [3, 6, 7, 8, 9] ?_
   refine SW_seq ?_
   refine SW_false (by kernel_rfl) ?_
   refine SW_exit ?_
   refine SW_P [] [2] ?_
   refine SW_ret ?_
   refine RK wR [(.str [])] ?_
   exact Same.of_eq (by simp only [pack]; unfold orS; rw [if_pos (by simp_all)] <;> simp_all)
set_option maxHeartbeats 1000000 in
set_option maxRecDepth 100000 in
theorem both_ok (kind : Int) (a b : List UInt8) (ha : a.length ≤ 4194304) (hb : b.length ≤ 4194304) :
  FnV Tryz.prog 129 [(.int .i64 kind), (.str a), (.str b)] (.tup [(.agg [.str (bothR kind a b).1.1, .str (bothR kind a b).1.2.1, .str (bothR kind a b).1.2.2]), (.agg [.str (bothR kind a b).2.1.1, .str (bothR kind a b).2.1.2.1, .str (bothR kind a b).2.1.2.2]), .int .i64 (bothR kind a b).2.2]) := by
 refine FnV_intro [.cell 6 136, .cell 7 136, .tmp 8] Tryz.func129 rfl Tryz.ntmps129 rfl rfl (fun B F hF => ?_)
 refine SW_P [] [0, 1, 2, 6, 7] ?_
 refine SW_seq ?_
 obtain ⟨b1, hb1⟩ : ∃ b, b = (!decide (kind = 1)) := ⟨_, rfl⟩
 refine SW_H (CS := [(4, (b1 = true → b1 = true)), (5, (b1 = true → b1 = true))]) [12, 13] [1, 2, 6, 7, 14] [] hk0 (vk 3 11 (a := .bool (!decide (kind = 1))) (b := .bool b1) (Imp.of_eq (by rw [hb1])) <| v0) (by refine cc _ ?_ <| cc _ ?_ c0 <;> first | omega | (simp; omega) | (simp; done) | (intros; simp_all; omega) | (intros; simp_all; done)) ?_
 refine SW_cond (q := b1 && (!decide (kind = 2))) (by kernel_rfl) (fun c1 => ?_) (fun c1 => ?_)
 ·subst hb1
  try simp only [Bool.and_eq_true, Bool.or_eq_true, Bool.and_eq_false_iff, Bool.or_eq_false_iff, Bool.not_eq_true', Bool.not_eq_false', decide_eq_true_eq, decide_eq_false_iff_not] at c1
  refine SW_D [] [6, 7, 8] [] hk0 v0 c0 ?_
  refine SW_ret ?_
  refine RK wR [(.agg [(.str []), (.str []), (.str [])]), (.agg [(.str []), (.str []), (.str [])]), (.int .i64 1)] ?_
  exact Same.of_eq (by simp only [pack]; unfold bothR; first | (rw [if_pos (by omega)]; done) | (rw [if_neg (by omega), if_pos (by omega)]; done) | (rw [if_neg (by omega), if_neg (by omega)]; done))
 ·subst hb1
  try simp only [Bool.and_eq_true, Bool.or_eq_true, Bool.and_eq_false_iff, Bool.or_eq_false_iff, Bool.not_eq_true', Bool.not_eq_false', decide_eq_true_eq, decide_eq_false_iff_not] at c1
  refine SW_skip ?_
  refine SW_seq ?_
  refine SW_H [] [2, 6, 7, 8] [] (hk 1 en_102 (evrParseV a (by omega)) <| hk0) v0 c0 ?_
  refine SW_P [] [2, 6, 7, 8, 23] ?_
  refine SW_if (p := (evrE a) = 0) (by kernel_rfl) (fun c2 => ?_) (fun c2 => ?_)
  ·refine SW_reg ?_
   refine SO_HA 0 [] [6, 7, 8] [] (hk 1 en_102 (evrParseV b (by omega)) <| hk0) v0 c0 ?_
   refine SW_D [] [6, 7, 8] [] hk0 v0 c0 ?_
   refine SW_ret ?_
   refine RK wR [(.agg [(.str ((evrP a).1)), (.str ((evrP a).2.1)), (.str ((evrP a).2.2))]), (.agg [(.str ((evrP b).1)), (.str ((evrP b).2.1)), (.str ((evrP b).2.2))]), (.int .i64 (evrE b))] ?_
   exact Same.of_eq (by simp only [pack]; unfold bothR; first | (rw [if_pos (by omega)]; done) | (rw [if_neg (by omega), if_pos (by omega)]; done) | (rw [if_neg (by omega), if_neg (by omega)]; done))
  ·refine SW_skip ?_
   refine SW_D [] [6, 7, 8] [] hk0 v0 c0 ?_
   refine SW_ret ?_
   refine RK wR [(.agg [(.str ((evrP a).1)), (.str ((evrP a).2.1)), (.str ((evrP a).2.2))]), (.agg [(.str []), (.str []), (.str [])]), (.int .i64 (evrE a))] ?_
   exact Same.of_eq (by simp only [pack]; unfold bothR; first | (rw [if_pos (by omega)]; done) | (rw [if_neg (by omega), if_pos (by omega)]; done) | (rw [if_neg (by omega), if_neg (by omega)]; done))
end Sv
end Go.Proofs.YtlfjokcbkopfeaaGreatDoor
end
section
namespace Go.Proofs.YtlfjokcbkopfeaaGreatDoor
open Go Go.RowKit
namespace Sv
attribute [local irreducible] SW SO holds
theorem en_166 : Enters Tryz.prog 166 := enters_of Tryz.func166 (by kernel_rfl) rfl
theorem en_197 : Enters Tryz.prog 197 := enters_of Tryz.func197 (by kernel_rfl) rfl
theorem en_198 : Enters Tryz.prog 198 := enters_of Tryz.func198 (by kernel_rfl) rfl
theorem en_199 : Enters Tryz.prog 199 := enters_of Tryz.func199 (by kernel_rfl) rfl
def mattersD (c : UInt8) : Bool := digitD c || (letterD c || (decide (c.toNat = 126) || decide (c.toNat = 94)))
set_option maxHeartbeats 400000 in
set_option maxRecDepth 100000 in
theorem matters_ok (c : UInt8) :
  FnV Tryz.prog 198 [(.int .u8 ((c.toNat : Int)))] (.bool (mattersD c)) := by
 refine FnV_intro [.tmp 2] Tryz.func198 rfl Tryz.ntmps198 rfl rfl (fun B F hF => ?_)
 refine SW_P [] [0] ?_
 obtain ⟨b1, hb1⟩ : ∃ b, b = ((digitD c) || (letterD c)) := ⟨_, rfl⟩
 obtain ⟨b2, hb2⟩ : ∃ b, b = (b1 || (decide ((c.toNat : Int) = 126))) := ⟨_, rfl⟩
 refine SW_H (CS := [(4, (!(digitD c)) = true → (!(digitD c)) = true), (5, ((digitD c) = false → (!(digitD c)) = true)), (8, ((!b1) = true → (!b1) = true)), (9, (b1 = false → (!b1) = true)), (12, ((!b2) = true → (!b2) = true)), (13, (b2 = false → (!b2) = true))]) [6, 10, 11, 14, 15] [2] [] (hk 1 en_148 (digitV_ok c) <| hkg 4 (!(digitD c)) en_149 (fun cg => letterV_ok c) <| hk0) (vk 7 9 (a := .bool ((digitD c) || (letterD c))) (b := .bool b1) (Imp.of_eq (by rw [hb1])) <| vk 11 13 (a := .bool (b1 || (decide ((c.toNat : Int) = 126)))) (b := .bool b2) (Imp.of_eq (by rw [hb2])) <| v0) (by refine cc _ ?_ <| cc _ ?_ <| cc _ ?_ <| cc _ ?_ <| cc _ ?_ <| cc _ ?_ c0 <;> first | omega | (simp; omega) | (simp; done) | (intros; simp_all; omega) | (intros; simp_all; done)) ?_
 refine SW_ret ?_
 refine RK wR [(.bool (b2 || (decide ((c.toNat : Int) = 94))))] ?_
 subst hb2 hb1
 refine Same.of_eq ?_
 simp only [pack]
 congr 1
 unfold mattersD
 rw [Bool.eq_iff_iff]
 have e1 : ((c.toNat : Int) = 126) ↔ c.toNat = 126 := by omega
 have e2 : ((c.toNat : Int) = 94) ↔ c.toNat = 94 := by omega
 simp only [Bool.and_eq_true, Bool.or_eq_true, decide_eq_true_eq, e1, e2, or_assoc]
set_option maxHeartbeats 400000 in
set_option maxRecDepth 100000 in
theorem odd_ok (c : UInt8) (a : AV) (q : Bool) (ha : FunV Tryz.prog a [.int .u8 (c.toNat : Int)] (.bool q)) :
  FnV Tryz.prog 199 [(.int .u8 ((c.toNat : Int))), (.fp (.agg [(.clo a)]))] (.bool (!q)) := by
 refine FnV_intro [.tmp 3] Tryz.func199 rfl Tryz.ntmps199 rfl rfl (fun B F hF => ?_)
 refine SW_P [] [0, 1] ?_
 refine SW_seq ?_
 refine SW_reg ?_
 refine SO_H 2 0 [] [4, 5] [] hk0 v0 c0 ?_
 refine SO_callA (s' := [(4, (.clo a)), (5, (.int .u8 ((c.toNat : Int)))), (6, (.bool q))]) (a := (.clo a)) (al := [(.int .u8 ((c.toNat : Int)))]) (r := (.bool q)) (by kernel_rfl) (by kernel_rfl) (by kernel_rfl) (by kernel_rfl) (by kernel_rfl) ha.clo (by kernel_rfl) ?_
 refine SO_HA 3 [] [3] [] hk0 v0 c0 ?_
 refine SW_ret ?_
 refine RK wR [(.bool (!q))] ?_
 exact Same.of_eq (by first | rfl | (simp only [pack]; simp_all))
set_option maxHeartbeats 400000 in
set_option maxRecDepth 100000 in
theorem begins126_ok (a b : List UInt8) (ha : a.length ≤ 4194304) (hb : b.length ≤ 4194304) :
  FnV Tryz.prog 197 [(.int .u8 126), (.fp (.agg [(.str a)])), (.fp (.agg [(.str b)]))] (.tup [.bool (headIs a 126), .bool (headIs b 126)]) := by
 refine FnV_intro [.tmp 4, .tmp 5] Tryz.func197 rfl Tryz.ntmps197 rfl rfl (fun B F hF => ?_)
 refine SW_P [] [0, 1, 2] ?_
 refine SW_D [] [4, 5] [] (hk 3 en_106 (HasPrefixV a 126 (by omega)) <| hk 7 en_106 (HasPrefixV b 126 (by omega)) <| hk0) v0 c0 ?_
 refine SW_ret ?_
 refine RK wR [(.bool (headIs a 126)), (.bool (headIs b 126))] ?_
 exact Same.of_eq (by first | rfl | (simp only [pack]; simp_all))
set_option maxHeartbeats 400000 in
set_option maxRecDepth 100000 in
theorem begins94_ok (a b : List UInt8) (ha : a.length ≤ 4194304) (hb : b.length ≤ 4194304) :
  FnV Tryz.prog 197 [(.int .u8 94), (.fp (.agg [(.str a)])), (.fp (.agg [(.str b)]))] (.tup [.bool (headIs a 94), .bool (headIs b 94)]) := by
 refine FnV_intro [.tmp 4, .tmp 5] Tryz.func197 rfl Tryz.ntmps197 rfl rfl (fun B F hF => ?_)
 refine SW_P [] [0, 1, 2] ?_
 refine SW_D [] [4, 5] [] (hk 3 en_106 (HasPrefixV a 94 (by omega)) <| hk 7 en_106 (HasPrefixV b 94 (by omega)) <| hk0) v0 c0 ?_
 refine SW_ret ?_
 refine RK wR [(.bool (headIs a 94)), (.bool (headIs b 94))] ?_
 exact Same.of_eq (by first | rfl | (simp only [pack]; simp_all))
end Sv
end Go.Proofs.YtlfjokcbkopfeaaGreatDoor
end
section
namespace Go.Proofs.YtlfjokcbkopfeaaGreatDoor
open Go Go.RowKit
namespace Sv
attribute [local irreducible] SW SO holds
def oddD (c : UInt8) : Bool := !mattersD c
theorem odd_fun (c : UInt8) : FunV Tryz.prog (.fn 199 [] [.fp (.agg [.fn 198 [] []])]) [.int .u8 (c.toNat : Int)] (.bool (oddD c)) :=
 FunV.of (by exact en_199) ((odd_ok c (.fn 198 [] []) (mattersD c) (FunV.of (by exact en_198) (matters_ok c))).of_args (ImpL.cons Imp.refl (ImpL.cons (Imp.fp (Imp.aggs (ImpL.cons (Imp.clo rfl) ImpL.nil))) ImpL.nil)))
theorem head_pos {s : List UInt8} {k : UInt8} (h : headIs s k = true) : 1 ≤ s.length := by
 cases s with
 | nil => simp [headIs] at h
 | cons a r => simp
theorem countN_drop (p : UInt8 → Bool) : ∀ s : List UInt8, s.drop (countN p s) = [] ∨ p (byteAt (s.drop (countN p s)) 0) = false
 | [] => .inl rfl
 | a :: r => by
  unfold countN
  rw [List.takeWhile_cons]
  cases h : p a with
  | true => exact countN_drop p r
  | false => right; simpa [byteAt] using h
theorem odd_drop {s r : List UInt8} (h : r = s.drop (countN oddD s)) : r = [] ∨ mattersD (byteAt r 0) = true := by
 rcases countN_drop oddD s with q | q
 ·exact .inl (h.trans q)
 ·right
  rw [h]
  have e : (!mattersD (byteAt (s.drop (countN oddD s)) 0)) = false := q
  simpa using e
theorem count_one {p : UInt8 → Bool} {s : List UInt8} (h : 1 ≤ s.length) (k : p (byteAt s 0) = true) : 1 ≤ countN p s := by
 cases s with
 | nil => simp at h
 | cons a r => unfold countN; rw [List.takeWhile_cons, show p a = true from by simpa [byteAt] using k]; simp
theorem matters_letter {s : List UInt8} (h : mattersD (byteAt s 0) = true) (hs : 1 ≤ s.length) (h1 : headIs s 126 = false) (h2 : headIs s 94 = false) (h3 : digitD (byteAt s 0) = false) : letterD (byteAt s 0) = true := by
 cases s with
 | nil => simp at hs
 | cons a r =>
  have e : byteAt (a :: r) 0 = a := by simp [byteAt]
  rw [e] at h h3 ⊢
  unfold mattersD at h
  rw [h3] at h
  have a1 : ¬ a.toNat = 126 := fun q => by have : a = 126 := UInt8.toNat_inj.1 q; subst this; simp [headIs] at h1
  have a2 : ¬ a.toNat = 94 := fun q => by have : a = 94 := UInt8.toNat_inj.1 q; subst this; simp [headIs] at h2
  simpa [a1, a2] using h
def rpmB (r : List UInt8 → List UInt8 → Int) (a b : List UInt8) : Int :=
 if headIs a 126 = true ∨ headIs b 126 = true then
  if headIs a 126 = true ∧ headIs b 126 = true then r (a.drop 1) (b.drop 1) else orderN (headIs a 126) (headIs b 126) (-1)
 else if headIs a 94 = true ∨ headIs b 94 = true then
  if headIs a 94 = true ∧ headIs b 94 = true then r (a.drop 1) (b.drop 1)
  else if a = [] ∨ b = [] then orderN (headIs a 94) (headIs b 94) 1 else orderN (headIs a 94) (headIs b 94) (-1)
 else if a = [] ∨ b = [] then cmpI (a.length : Int) (b.length : Int)
 else if digitD (byteAt a 0) = true then
  if countN digitD b = 0 then 1
  else if ¬ numbersN (a.take (countN digitD a)) (b.take (countN digitD b)) = 0 then numbersN (a.take (countN digitD a)) (b.take (countN digitD b))
  else r (a.drop (countN digitD a)) (b.drop (countN digitD b))
 else if countN letterD b = 0 then -1
 else if ¬ Lib.compareBytes (a.take (countN letterD a)) (b.take (countN letterD b)) = 0 then Lib.compareBytes (a.take (countN letterD a)) (b.take (countN letterD b))
 else r (a.drop (countN letterD a)) (b.drop (countN letterD b))
def rpmF : Nat → List UInt8 → List UInt8 → Int
 | 0, _, _ => 0
 | n + 1, a, b => rpmB (rpmF n) (a.drop (countN oddD a)) (b.drop (countN oddD b))
set_option maxHeartbeats 2000000 in
set_option maxRecDepth 100000 in
theorem rpm_ok (n : Nat) (a0 b0 : List UInt8) (h0 : a0.length + b0.length < n) (ha : a0.length ≤ 4194304) (hb : b0.length ≤ 4194304) :
  FnV Tryz.prog 166 [(.str a0), (.str b0)] (.int .i64 (rpmF n a0 b0)) := by
 refine FnV_intro [.tmp 4] Tryz.func166 rfl Tryz.ntmps166 rfl rfl (fun B F hF => ?_)
 refine SW_P [] [2, 3] ?_
 refine SW_scopeg 0 rfl (fun g y => ∃ (k : Nat) (a : List UInt8) (b : List UInt8), a.length + b.length < k ∧ a.length ≤ 4194304 ∧ b.length ≤ 4194304 ∧ rpmF n a0 b0 = rpmF k a b ∧ y = ⟨[(2, (.ptr 0 0)), (3, (.ptr 1 0)), (5, (.fn 197 [] [(.ptr 0 0), (.ptr 1 0)])), (7, (.fn 199 [] [(.fp (.agg [(.fn 198 [] [])]))]))], [(0, (.row [(.str a)] 9)), (1, (.row [(.str b)] 9))], 3⟩ ∧ g = k) [2, 3, 5, 7] 3 (by omega) (fun hJ0 => ?_) ?_
 ·refine SW_seq ?_
  refine SW_reg ?_
  refine SO_P [] [2, 3, 5] ?_
  refine SW_seq ?_
  refine SW_reg ?_
  refine SO_P [] [2, 3, 5, 6] ?_
  refine SW_seq ?_
  refine SW_reg ?_
  refine SO_HA 0 [] [2, 3, 5, 7] [(0, 6)] hk0 v0 c0 ?_
  refine SW_seq ?_
  refine SW_label ?_
  refine SW_gc (y := ⟨[(2, (.ptr 0 0)), (3, (.ptr 1 0)), (5, (.fn 197 [] [(.ptr 0 0), (.ptr 1 0)])), (7, (.fn 199 [] [(.fp (.agg [(.fn 198 [] [])]))]))], [(0, (.row [(.str a0)] 9)), (1, (.row [(.str b0)] 9))], 3⟩) [2, 3, 5, 7] 3 (by omega) (by kernel_rfl) (hJ0 _ _ ⟨n, a0, b0, (by omega), (by omega), (by omega), (by rfl), (by kernel_rfl), rfl⟩)
 ·rintro g y ⟨k, a, b, fl0_1, fl0_2, fl0_3, fl0_4, rfl, rfl⟩
  obtain ⟨k, rfl⟩ : ∃ q, g = q + 1 := ⟨g - 1, by omega⟩
  have hoa := countN_le oddD a
  have hob := countN_le oddD b
  refine SW_C (fun y => ∃ (a1 : List UInt8) (b1 : List UInt8), a1 = a.drop (countN oddD a) ∧ b1 = b.drop (countN oddD b) ∧ y = ⟨[(2, (.ptr 0 0)), (3, (.ptr 1 0)), (5, (.fn 197 [] [(.ptr 0 0), (.ptr 1 0)])), (7, (.fn 199 [] [(.fp (.agg [(.fn 198 [] [])]))]))], [(0, (.row [(.str a1)] 9)), (1, (.row [(.str b1)] 9))], 3⟩) [2, 3, 5, 7] 3 (by omega) ?_ ?_
  ·refine SW_DA (CS := [(4, (0 ≤ (countN oddD a : Int) ∧ (countN oddD a : Int) ≤ (a.length : Int) ∧ (a.length : Int) ≤ (a.length : Int))), (9, (0 ≤ (countN oddD b : Int) ∧ (countN oddD b : Int) ≤ (b.length : Int) ∧ (b.length : Int) ≤ (b.length : Int)))]) [] [2, 3, 5, 7] [] (hk 3 (al := [(.str a), (.fn 199 [] [(.fp (.agg [(.fn 198 [] [])]))])]) en_151 ((countV_ok a (.fn 199 [] [.fp (.agg [.fn 198 [] []])]) oddD (by omega) (fun c => odd_fun c)).of_args (ImpL.cons Imp.refl (ImpL.cons (Imp.clo rfl) ImpL.nil))) <| hk 8 (al := [(.str b), (.fn 199 [] [(.fp (.agg [(.fn 198 [] [])]))])]) en_151 ((countV_ok b (.fn 199 [] [.fp (.agg [.fn 198 [] []])]) oddD (by omega) (fun c => odd_fun c)).of_args (ImpL.cons Imp.refl (ImpL.cons (Imp.clo rfl) ImpL.nil))) <| hk0) v0 (by refine cc _ ?_ <| cc _ ?_ c0 <;> first | omega | (simp; omega) | (simp; done) | (intros; simp_all; omega) | (intros; simp_all; done)) ?_
   refine ⟨by kernel_rfl, ((a.take a.length).drop (countN oddD a)), ((b.take b.length).drop (countN oddD b)), ?_, ?_, (by kernel_rfl)⟩
   all_goals rw [List.take_length]
  ·rintro y1 ⟨a1, b1, ja, jb, rfl⟩
   have hla : a1.length ≤ a.length := by rw [ja, List.length_drop]; omega
   have hlb : b1.length ≤ b.length := by rw [jb, List.length_drop]; omega
   have hma := odd_drop ja
   have hmb := odd_drop jb
   have hxa := fun k => head_pos (s := a1) (k := k)
   have hxb := fun k => head_pos (s := b1) (k := k)
   have hda := countN_le digitD a1
   have hdb := countN_le digitD b1
   have hea := countN_le letterD a1
   have heb := countN_le letterD b1
   have e0 : rpmF (k + 1) a b = rpmB (rpmF k) a1 b1 := by rw [ja, jb]; rfl
   refine SW_seq ?_
   refine SW_seq ?_
   refine SW_reg ?_
   refine SO_H 1 0 [] [2, 3, 5, 7, 31] [] hk0 v0 c0 ?_
   refine SO_callBv (s' := [(2, (.ptr 0 0)), (3, (.ptr 1 0)), (5, (.fn 197 [] [(.ptr 0 0), (.ptr 1 0)])), (7, (.fn 199 [] [(.fp (.agg [(.fn 198 [] [])]))])), (31, (.fn 197 [] [(.ptr 0 0), (.ptr 1 0)])), (32, (.tup [(.bool (headIs a1 126)), (.bool (headIs b1 126))]))]) (al := [(.int .u8 126)]) (f := 197) (cap := [(.ptr 0 0), (.ptr 1 0)]) (al' := [(.int .u8 126), (.fp (.agg [(.str a1)])), (.fp (.agg [(.str b1)]))]) (h' := []) (r := (.tup [(.bool (headIs a1 126)), (.bool (headIs b1 126))])) (by kernel_rfl) (by kernel_rfl) (by exact en_197) (by kernel_rfl) (by kernel_rfl) (begins126_ok a1 b1 (by omega) (by omega)) rfl (by kernel_rfl) ?_
   refine SO_HA 2 [] [2, 3, 5, 7, 8, 9] [] hk0 v0 c0 ?_
   refine SW_H [37] [2, 3, 5, 7, 8, 9, 38] [] hk0 v0 (cc 3 (p := ((headIs a1 126) = false → (!(headIs a1 126)) = true)) (by first | omega | (simp; omega) | (simp; done) | (intros; simp_all; omega) | (intros; simp_all; done)) <| c0) ?_
   refine SW_cond (q := (headIs a1 126) || (headIs b1 126)) (by kernel_rfl) (fun c1 => ?_) (fun c1 => ?_)
   ·try simp only [Bool.and_eq_true, Bool.or_eq_true, Bool.and_eq_false_iff, Bool.or_eq_false_iff, Bool.not_eq_true', Bool.not_eq_false', decide_eq_true_eq, decide_eq_false_iff_not] at c1
    refine SW_seq ?_
    refine SW_H [41] [2, 3, 5, 7, 8, 9, 42] [] hk0 v0 (cc 3 (p := ((headIs a1 126) = true → (headIs a1 126) = true)) (by first | omega | (simp; omega) | (simp; done) | (intros; simp_all; omega) | (intros; simp_all; done)) <| c0) ?_
    refine SW_cond (q := (headIs a1 126) && (headIs b1 126)) (by kernel_rfl) (fun c2 => ?_) (fun c2 => ?_)
    ·try simp only [Bool.and_eq_true, Bool.or_eq_true, Bool.and_eq_false_iff, Bool.or_eq_false_iff, Bool.not_eq_true', Bool.not_eq_false', decide_eq_true_eq, decide_eq_false_iff_not] at c2
     have h1 := hxa _ c2.1
     have h2 := hxb _ c2.2
     refine SW_D (CS := [(1, (0 ≤ (1 : Int) ∧ (1 : Int) ≤ (a1.length : Int) ∧ (a1.length : Int) ≤ (a1.length : Int))), (3, (0 ≤ (1 : Int) ∧ (1 : Int) ≤ (b1.length : Int) ∧ (b1.length : Int) ≤ (b1.length : Int)))]) [] [2, 3, 5, 7] [] hk0 v0 (by refine cc _ ?_ <| cc _ ?_ c0 <;> first | omega | (simp; omega) | (simp; done) | (intros; simp_all; omega) | (intros; simp_all; done)) ?_
     refine SW_goto ⟨rfl, _, (by kernel_rfl : gcS _ _ _ = some ⟨[(2, (.ptr 0 0)), (3, (.ptr 1 0)), (5, (.fn 197 [] [(.ptr 0 0), (.ptr 1 0)])), (7, (.fn 199 [] [(.fp (.agg [(.fn 198 [] [])]))]))], [(0, (.row [(.str ((a1.take a1.length).drop 1))] 9)), (1, (.row [(.str ((b1.take b1.length).drop 1))] 9))], 3⟩), _, ?_, k, ((a1.take a1.length).drop 1), ((b1.take b1.length).drop 1), ?_, ?_, ?_, ?_, (by kernel_rfl), rfl⟩
     all_goals (try simp only [List.take_length, List.drop_zero, List.length_drop] at *)
     ·omega
     ·omega
     ·omega
     ·omega
     ·rw [fl0_4, e0]
      unfold rpmB
      rw [if_pos c1, if_pos c2]
    ·try simp only [Bool.and_eq_true, Bool.or_eq_true, Bool.and_eq_false_iff, Bool.or_eq_false_iff, Bool.not_eq_true', Bool.not_eq_false', decide_eq_true_eq, decide_eq_false_iff_not] at c2
     refine SW_skip ?_
     refine SW_H [] [4] [] (hk 2 en_167 (order_ok (headIs a1 126) (headIs b1 126) (-1) (by omega)) <| hk0) v0 c0 ?_
     refine SW_ret ?_
     refine RK wR [(.int .i64 (orderN (headIs a1 126) (headIs b1 126) (-1)))] ?_
     refine Same.of_eq ?_
     simp only [pack]
     try simp only [List.take_length, List.drop_zero] at *
     rw [fl0_4, e0]
     congr 1
     symm
     unfold rpmB
     rw [if_pos c1, if_neg (by rcases c2 with h | h <;> simp [h])]
   ·try simp only [Bool.and_eq_true, Bool.or_eq_true, Bool.and_eq_false_iff, Bool.or_eq_false_iff, Bool.not_eq_true', Bool.not_eq_false', decide_eq_true_eq, decide_eq_false_iff_not] at c1
    refine SW_skip ?_
    refine SW_seq ?_
    refine SW_seq ?_
    refine SW_reg ?_
    refine SO_H 1 0 [] [2, 3, 5, 7, 51] [] hk0 v0 c0 ?_
    refine SO_callBv (s' := [(2, (.ptr 0 0)), (3, (.ptr 1 0)), (5, (.fn 197 [] [(.ptr 0 0), (.ptr 1 0)])), (7, (.fn 199 [] [(.fp (.agg [(.fn 198 [] [])]))])), (51, (.fn 197 [] [(.ptr 0 0), (.ptr 1 0)])), (52, (.tup [(.bool (headIs a1 94)), (.bool (headIs b1 94))]))]) (al := [(.int .u8 94)]) (f := 197) (cap := [(.ptr 0 0), (.ptr 1 0)]) (al' := [(.int .u8 94), (.fp (.agg [(.str a1)])), (.fp (.agg [(.str b1)]))]) (h' := []) (r := (.tup [(.bool (headIs a1 94)), (.bool (headIs b1 94))])) (by kernel_rfl) (by kernel_rfl) (by exact en_197) (by kernel_rfl) (by kernel_rfl) (begins94_ok a1 b1 (by omega) (by omega)) rfl (by kernel_rfl) ?_
    refine SO_HA 2 [] [2, 3, 5, 7, 10, 11] [] hk0 v0 c0 ?_
    refine SW_H [57] [2, 3, 5, 7, 10, 11, 58] [] hk0 v0 (cc 3 (p := ((headIs a1 94) = false → (!(headIs a1 94)) = true)) (by first | omega | (simp; omega) | (simp; done) | (intros; simp_all; omega) | (intros; simp_all; done)) <| c0) ?_
    refine SW_cond (q := (headIs a1 94) || (headIs b1 94)) (by kernel_rfl) (fun c3 => ?_) (fun c3 => ?_)
    ·try simp only [Bool.and_eq_true, Bool.or_eq_true, Bool.and_eq_false_iff, Bool.or_eq_false_iff, Bool.not_eq_true', Bool.not_eq_false', decide_eq_true_eq, decide_eq_false_iff_not] at c3
     refine SW_seq ?_
     refine SW_block ?_
     refine SW_H [62] [2, 3, 5, 7, 10, 11, 59] [] hk0 v0 (cc 3 (p := ((headIs a1 94) = true → (headIs a1 94) = true)) (by first | omega | (simp; omega) | (simp; done) | (intros; simp_all; omega) | (intros; simp_all; done)) <| c0) ?_
     refine SW_cond (q := (headIs a1 94) && (headIs b1 94)) (by kernel_rfl) (fun c4 => ?_) (fun c4 => ?_)
     ·try simp only [Bool.and_eq_true, Bool.or_eq_true, Bool.and_eq_false_iff, Bool.or_eq_false_iff, Bool.not_eq_true', Bool.not_eq_false', decide_eq_true_eq, decide_eq_false_iff_not] at c4
      have h1 := hxa _ c4.1
      have h2 := hxb _ c4.2
      refine SW_D (CS := [(1, (0 ≤ (1 : Int) ∧ (1 : Int) ≤ (a1.length : Int) ∧ (a1.length : Int) ≤ (a1.length : Int))), (3, (0 ≤ (1 : Int) ∧ (1 : Int) ≤ (b1.length : Int) ∧ (b1.length : Int) ≤ (b1.length : Int)))]) [] [2, 3, 5, 7] [] hk0 v0 (by refine cc _ ?_ <| cc _ ?_ c0 <;> first | omega | (simp; omega) | (simp; done) | (intros; simp_all; omega) | (intros; simp_all; done)) ?_
      refine SW_goto ⟨rfl, _, (by kernel_rfl : gcS _ _ _ = some ⟨[(2, (.ptr 0 0)), (3, (.ptr 1 0)), (5, (.fn 197 [] [(.ptr 0 0), (.ptr 1 0)])), (7, (.fn 199 [] [(.fp (.agg [(.fn 198 [] [])]))]))], [(0, (.row [(.str ((a1.take a1.length).drop 1))] 9)), (1, (.row [(.str ((b1.take b1.length).drop 1))] 9))], 3⟩), _, ?_, k, ((a1.take a1.length).drop 1), ((b1.take b1.length).drop 1), ?_, ?_, ?_, ?_, (by kernel_rfl), rfl⟩
      all_goals (try simp only [List.take_length, List.drop_zero, List.length_drop] at *)
      ·omega
      ·omega
      ·omega
      ·omega
      ·rw [fl0_4, e0]
       unfold rpmB
       rw [if_neg (by simp [c1.1, c1.2]), if_pos c3, if_pos c4]
     ·try simp only [Bool.and_eq_true, Bool.or_eq_true, Bool.and_eq_false_iff, Bool.or_eq_false_iff, Bool.not_eq_true', Bool.not_eq_false', decide_eq_true_eq, decide_eq_false_iff_not] at c4
      refine SW_H (CS := [(4, ((!(decide (a1 = []))) = true → (!(decide (a1 = []))) = true)), (5, ((decide (a1 = [])) = false → (!(decide (a1 = []))) = true))]) [72, 73] [10, 11, 68] [] hk0 v0 (by refine cc _ ?_ <| cc _ ?_ c0 <;> first | omega | (simp; omega) | (simp; done) | (intros; simp_all; omega) | (intros; simp_all; done)) ?_
      refine SW_cond (q := (decide (a1 = [])) || (decide (b1 = []))) (by kernel_rfl) (fun c5 => ?_) (fun c5 => ?_)
      ·try simp only [Bool.and_eq_true, Bool.or_eq_true, Bool.and_eq_false_iff, Bool.or_eq_false_iff, Bool.not_eq_true', Bool.not_eq_false', decide_eq_true_eq, decide_eq_false_iff_not] at c5
       refine SW_H [] [4] [] (hk 2 en_167 (order_ok (headIs a1 94) (headIs b1 94) 1 (by omega)) <| hk0) v0 c0 ?_
       refine SW_ret ?_
       refine RK wR [(.int .i64 (orderN (headIs a1 94) (headIs b1 94) 1))] ?_
       refine Same.of_eq ?_
       simp only [pack]
       try simp only [List.take_length, List.drop_zero] at *
       rw [fl0_4, e0]
       congr 1
       symm
       unfold rpmB
       rw [if_neg (by simp [c1.1, c1.2]), if_pos c3, if_neg (by rcases c4 with h | h <;> simp [h]), if_pos c5]
      ·try simp only [Bool.and_eq_true, Bool.or_eq_true, Bool.and_eq_false_iff, Bool.or_eq_false_iff, Bool.not_eq_true', Bool.not_eq_false', decide_eq_true_eq, decide_eq_false_iff_not] at c5
       refine SW_skip ?_
       refine SW_H [] [4] [] (hk 2 en_167 (order_ok (headIs a1 94) (headIs b1 94) (-1) (by omega)) <| hk0) v0 c0 ?_
       refine SW_ret ?_
       refine RK wR [(.int .i64 (orderN (headIs a1 94) (headIs b1 94) (-1)))] ?_
       refine Same.of_eq ?_
       simp only [pack]
       try simp only [List.take_length, List.drop_zero] at *
       rw [fl0_4, e0]
       congr 1
       symm
       unfold rpmB
       rw [if_neg (by simp [c1.1, c1.2]), if_pos c3, if_neg (by rcases c4 with h | h <;> simp [h]), if_neg (by simp [c5.1, c5.2])]
    ·try simp only [Bool.and_eq_true, Bool.or_eq_true, Bool.and_eq_false_iff, Bool.or_eq_false_iff, Bool.not_eq_true', Bool.not_eq_false', decide_eq_true_eq, decide_eq_false_iff_not] at c3
     refine SW_skip ?_
     refine SW_seq ?_
     refine SW_H (CS := [(4, ((!(decide (a1 = []))) = true → (!(decide (a1 = []))) = true)), (5, ((decide (a1 = [])) = false → (!(decide (a1 = []))) = true))]) [84, 85] [2, 3, 5, 7, 86] [] hk0 v0 (by refine cc _ ?_ <| cc _ ?_ c0 <;> first | omega | (simp; omega) | (simp; done) | (intros; simp_all; omega) | (intros; simp_all; done)) ?_
     refine SW_cond (q := (decide (a1 = [])) || (decide (b1 = []))) (by kernel_rfl) (fun c6 => ?_) (fun c6 => ?_)
     ·try simp only [Bool.and_eq_true, Bool.or_eq_true, Bool.and_eq_false_iff, Bool.or_eq_false_iff, Bool.not_eq_true', Bool.not_eq_false', decide_eq_true_eq, decide_eq_false_iff_not] at c6
      refine SW_H [] [4] [] (hk 4 en_194 (cmp_ok (a1.length : Int) (b1.length : Int)) <| hk0) v0 c0 ?_
      refine SW_ret ?_
      refine RK wR [(.int .i64 (cmpI (a1.length : Int) (b1.length : Int)))] ?_
      refine Same.of_eq ?_
      simp only [pack]
      try simp only [List.take_length, List.drop_zero] at *
      rw [fl0_4, e0]
      congr 1
      symm
      unfold rpmB
      rw [if_neg (by simp [c1.1, c1.2]), if_neg (by simp [c3.1, c3.2]), if_pos c6]
     ·try simp only [Bool.and_eq_true, Bool.or_eq_true, Bool.and_eq_false_iff, Bool.or_eq_false_iff, Bool.not_eq_true', Bool.not_eq_false', decide_eq_true_eq, decide_eq_false_iff_not] at c6
      have hpa := List.length_pos_iff.2 c6.1
      have hpb := List.length_pos_iff.2 c6.2
      refine SW_skip ?_
      refine SW_seq ?_
      refine SW_H [] [2, 3, 5, 7, 94] [] (hk 2 en_148 (digitV_ok (byteAt a1 0)) <| hk0) v0 (cc 1 (p := (0 ≤ (0 : Int) ∧ 0 < a1.length)) (by first | omega | (simp; omega) | (simp; done) | (intros; simp_all; omega) | (intros; simp_all; done)) <| c0) ?_
      refine SW_cond (q := digitD (byteAt a1 0)) (by kernel_rfl) (fun c7 => ?_) (fun c7 => ?_)
      ·try simp only [Bool.and_eq_true, Bool.or_eq_true, Bool.and_eq_false_iff, Bool.or_eq_false_iff, Bool.not_eq_true', Bool.not_eq_false', decide_eq_true_eq, decide_eq_false_iff_not] at c7
       refine SW_D [] [2, 3, 5, 7, 12, 13] [] (hk 1 (al := [(.str a1), (.fn 148 [] [])]) en_151 ((countV_ok a1 (.fn 148 [] []) digitD (by omega) (fun c => FunV.of (by exact en_148) (digitV_ok c))).of_args (ImpL.cons Imp.refl (ImpL.cons (Imp.clo rfl) ImpL.nil))) <| hk 3 (al := [(.str b1), (.fn 148 [] [])]) en_151 ((countV_ok b1 (.fn 148 [] []) digitD (by omega) (fun c => FunV.of (by exact en_148) (digitV_ok c))).of_args (ImpL.cons Imp.refl (ImpL.cons (Imp.clo rfl) ImpL.nil))) <| hk0) v0 c0 ?_
       refine SW_seq ?_
       refine SW_P [] [2, 3, 5, 7, 12, 13, 100] ?_
       refine SW_if (p := (countN digitD b1 : Int) = 0) (by kernel_rfl) (fun c8 => ?_) (fun c8 => ?_)
       ·refine SW_P [] [4] ?_
        refine SW_ret ?_
        refine RK wR [(.int .i64 1)] ?_
        refine Same.of_eq ?_
        simp only [pack]
        try simp only [List.take_length, List.drop_zero] at *
        rw [fl0_4, e0]
        congr 1
        symm
        unfold rpmB
        rw [if_neg (by simp [c1.1, c1.2]), if_neg (by simp [c3.1, c3.2]), if_neg (by simp [c6.1, c6.2]), if_pos c7, if_pos (by omega)]
       ·refine SW_skip ?_
        refine SW_seq ?_
        refine SW_D (CS := [(2, (0 ≤ (0 : Int) ∧ (0 : Int) ≤ (countN digitD a1 : Int) ∧ (countN digitD a1 : Int) ≤ (a1.length : Int))), (5, (0 ≤ (0 : Int) ∧ (0 : Int) ≤ (countN digitD b1 : Int) ∧ (countN digitD b1 : Int) ≤ (b1.length : Int)))]) [] [2, 3, 5, 7, 12, 13, 14] [] (hk 6 en_163 (numbers_ok ((a1.take (countN digitD a1)).drop 0) ((b1.take (countN digitD b1)).drop 0)) <| hk0) v0 (by refine cc _ ?_ <| cc _ ?_ c0 <;> first | omega | (simp; omega) | (simp; done) | (intros; simp_all; omega) | (intros; simp_all; done)) ?_
        refine SW_P [] [2, 3, 5, 7, 12, 13, 14, 109] ?_
        refine SW_ifn (p := (numbersN ((a1.take (countN digitD a1)).drop 0) ((b1.take (countN digitD b1)).drop 0)) = 0) (by kernel_rfl) (fun c9 => ?_) (fun c9 => ?_)
        ·refine SW_P [] [4] ?_
         refine SW_ret ?_
         refine RK wR [(.int .i64 (numbersN ((a1.take (countN digitD a1)).drop 0) ((b1.take (countN digitD b1)).drop 0)))] ?_
         refine Same.of_eq ?_
         simp only [pack]
         try simp only [List.take_length, List.drop_zero] at *
         rw [fl0_4, e0]
         congr 1
         symm
         unfold rpmB
         rw [if_neg (by simp [c1.1, c1.2]), if_neg (by simp [c3.1, c3.2]), if_neg (by simp [c6.1, c6.2]), if_pos c7, if_neg (by omega), if_pos c9]
        ·refine SW_skip ?_
         refine SW_D (CS := [(2, (0 ≤ (countN digitD a1 : Int) ∧ (countN digitD a1 : Int) ≤ (a1.length : Int) ∧ (a1.length : Int) ≤ (a1.length : Int))), (5, (0 ≤ (countN digitD b1 : Int) ∧ (countN digitD b1 : Int) ≤ (b1.length : Int) ∧ (b1.length : Int) ≤ (b1.length : Int)))]) [] [2, 3, 5, 7] [] hk0 v0 (by refine cc _ ?_ <| cc _ ?_ c0 <;> first | omega | (simp; omega) | (simp; done) | (intros; simp_all; omega) | (intros; simp_all; done)) ?_
         refine SW_goto ⟨rfl, _, (by kernel_rfl : gcS _ _ _ = some ⟨[(2, (.ptr 0 0)), (3, (.ptr 1 0)), (5, (.fn 197 [] [(.ptr 0 0), (.ptr 1 0)])), (7, (.fn 199 [] [(.fp (.agg [(.fn 198 [] [])]))]))], [(0, (.row [(.str ((a1.take a1.length).drop (countN digitD a1)))] 9)), (1, (.row [(.str ((b1.take b1.length).drop (countN digitD b1)))] 9))], 3⟩), _, ?_, k, ((a1.take a1.length).drop (countN digitD a1)), ((b1.take b1.length).drop (countN digitD b1)), ?_, ?_, ?_, ?_, (by kernel_rfl), rfl⟩
         all_goals (try simp only [List.take_length, List.drop_zero, List.length_drop] at *)
         have h3 := count_one (p := digitD) (s := a1) (by omega) (by simpa using c7)
         ·omega
         ·omega
         ·omega
         ·omega
         ·rw [fl0_4, e0]
          unfold rpmB
          rw [if_neg (by simp [c1.1, c1.2]), if_neg (by simp [c3.1, c3.2]), if_neg (by simp [c6.1, c6.2]), if_pos c7, if_neg (by omega), if_neg (fun q => q c9)]
      ·try simp only [Bool.and_eq_true, Bool.or_eq_true, Bool.and_eq_false_iff, Bool.or_eq_false_iff, Bool.not_eq_true', Bool.not_eq_false', decide_eq_true_eq, decide_eq_false_iff_not] at c7
       refine SW_skip ?_
       refine SW_D [] [2, 3, 5, 7, 15, 16] [] (hk 1 (al := [(.str a1), (.fn 149 [] [])]) en_151 ((countV_ok a1 (.fn 149 [] []) letterD (by omega) (fun c => FunV.of (by exact en_149) (letterV_ok c))).of_args (ImpL.cons Imp.refl (ImpL.cons (Imp.clo rfl) ImpL.nil))) <| hk 3 (al := [(.str b1), (.fn 149 [] [])]) en_151 ((countV_ok b1 (.fn 149 [] []) letterD (by omega) (fun c => FunV.of (by exact en_149) (letterV_ok c))).of_args (ImpL.cons Imp.refl (ImpL.cons (Imp.clo rfl) ImpL.nil))) <| hk0) v0 c0 ?_
       refine SW_seq ?_
       refine SW_P [] [2, 3, 5, 7, 15, 16, 122] ?_
       refine SW_if (p := (countN letterD b1 : Int) = 0) (by kernel_rfl) (fun c10 => ?_) (fun c10 => ?_)
       ·refine SW_P [] [4] ?_
        refine SW_ret ?_
        refine RK wR [(.int .i64 (-1))] ?_
        refine Same.of_eq ?_
        simp only [pack]
        try simp only [List.take_length, List.drop_zero] at *
        rw [fl0_4, e0]
        congr 1
        symm
        unfold rpmB
        rw [if_neg (by simp [c1.1, c1.2]), if_neg (by simp [c3.1, c3.2]), if_neg (by simp [c6.1, c6.2]), if_neg (by simp [c7]), if_pos (by omega)]
       ·refine SW_skip ?_
        refine SW_seq ?_
        refine SW_D (CS := [(2, (0 ≤ (0 : Int) ∧ (0 : Int) ≤ (countN letterD a1 : Int) ∧ (countN letterD a1 : Int) ≤ (a1.length : Int))), (5, (0 ≤ (0 : Int) ∧ (0 : Int) ≤ (countN letterD b1 : Int) ∧ (countN letterD b1 : Int) ≤ (b1.length : Int)))]) [] [2, 3, 5, 7, 15, 16, 17] [] (hk 6 en_195 (CompareV ((a1.take (countN letterD a1)).drop 0) ((b1.take (countN letterD b1)).drop 0)) <| hk0) v0 (by refine cc _ ?_ <| cc _ ?_ c0 <;> first | omega | (simp; omega) | (simp; done) | (intros; simp_all; omega) | (intros; simp_all; done)) ?_
        refine SW_P [] [2, 3, 5, 7, 15, 16, 17, 131] ?_
        refine SW_ifn (p := (Lib.compareBytes ((a1.take (countN letterD a1)).drop 0) ((b1.take (countN letterD b1)).drop 0)) = 0) (by kernel_rfl) (fun c11 => ?_) (fun c11 => ?_)
        ·refine SW_P [] [4] ?_
         refine SW_ret ?_
         refine RK wR [(.int .i64 (Lib.compareBytes ((a1.take (countN letterD a1)).drop 0) ((b1.take (countN letterD b1)).drop 0)))] ?_
         refine Same.of_eq ?_
         simp only [pack]
         try simp only [List.take_length, List.drop_zero] at *
         rw [fl0_4, e0]
         congr 1
         symm
         unfold rpmB
         rw [if_neg (by simp [c1.1, c1.2]), if_neg (by simp [c3.1, c3.2]), if_neg (by simp [c6.1, c6.2]), if_neg (by simp [c7]), if_neg (by omega), if_pos c11]
        ·refine SW_skip ?_
         refine SW_D (CS := [(2, (0 ≤ (countN letterD a1 : Int) ∧ (countN letterD a1 : Int) ≤ (a1.length : Int) ∧ (a1.length : Int) ≤ (a1.length : Int))), (5, (0 ≤ (countN letterD b1 : Int) ∧ (countN letterD b1 : Int) ≤ (b1.length : Int) ∧ (b1.length : Int) ≤ (b1.length : Int)))]) [] [2, 3, 5, 7] [] hk0 v0 (by refine cc _ ?_ <| cc _ ?_ c0 <;> first | omega | (simp; omega) | (simp; done) | (intros; simp_all; omega) | (intros; simp_all; done)) ?_
         refine SW_goto ⟨rfl, _, (by kernel_rfl : gcS _ _ _ = some ⟨[(2, (.ptr 0 0)), (3, (.ptr 1 0)), (5, (.fn 197 [] [(.ptr 0 0), (.ptr 1 0)])), (7, (.fn 199 [] [(.fp (.agg [(.fn 198 [] [])]))]))], [(0, (.row [(.str ((a1.take a1.length).drop (countN letterD a1)))] 9)), (1, (.row [(.str ((b1.take b1.length).drop (countN letterD b1)))] 9))], 3⟩), _, ?_, k, ((a1.take a1.length).drop (countN letterD a1)), ((b1.take b1.length).drop (countN letterD b1)), ?_, ?_, ?_, ?_, (by kernel_rfl), rfl⟩
         all_goals (try simp only [List.take_length, List.drop_zero, List.length_drop] at *)
         have hml : letterD (byteAt a1 0) = true := by
          rcases hma with q | q
          ·exact absurd q c6.1
          ·exact matters_letter q (by omega) (by simp_all) (by simp_all) (by simp_all)
         have h3 := count_one (p := letterD) (s := a1) (by omega) hml
         ·omega
         ·omega
         ·omega
         ·omega
         ·rw [fl0_4, e0]
          unfold rpmB
          rw [if_neg (by simp [c1.1, c1.2]), if_neg (by simp [c3.1, c3.2]), if_neg (by simp [c6.1, c6.2]), if_neg (by simp [c7]), if_neg (by omega), if_neg (fun q => q c11)]
end Sv
end Go.Proofs.YtlfjokcbkopfeaaGreatDoor
end
section
namespace Go.Proofs.YtlfjokcbkopfeaaGreatDoor
open Go Go.RowKit
namespace Sv
attribute [local irreducible] SW SO holds
theorem en_131 : Enters Tryz.prog 131 := enters_of Tryz.func131 (by kernel_rfl) rfl
def debN (a b : List UInt8) : Int := debF (a.length + b.length + 1) a b
def rpmN (a b : List UInt8) : Int := rpmF (a.length + b.length + 1) a b
theorem deb_okN (a b : List UInt8) (ha : a.length ≤ 4194304) (hb : b.length ≤ 4194304) : FnV Tryz.prog 164 [.str a, .str b] (.int .i64 (debN a b)) := deb_ok _ a b (by omega) ha hb
theorem rpm_okN (a b : List UInt8) (ha : a.length ≤ 4194304) (hb : b.length ≤ 4194304) : FnV Tryz.prog 166 [.str a, .str b] (.int .i64 (rpmN a b)) := rpm_ok _ a b (by omega) ha hb
theorem orS_len {a : List UInt8} (h : a.length ≤ 4194304) : (orS a [48]).length ≤ 4194304 := by unfold orS; split <;> simp [h]
def evrPartsN (k : Int) (a b : (List UInt8 × List UInt8 × List UInt8)) : Int × Int :=
 if k = 2 then (orI (numbersN a.1 b.1) (debN a.2.1 b.2.1), debN (orS a.2.2 [48]) (orS b.2.2 [48]))
 else if a.2.2 = [] ∨ b.2.2 = [] then (orI (numbersN a.1 b.1) (rpmN a.2.1 b.2.1), orderN (!decide (a.2.2 = [])) (!decide (b.2.2 = [])) 1)
 else (orI (numbersN a.1 b.1) (rpmN a.2.1 b.2.1), rpmN a.2.2 b.2.2)
def meetC (a b : List UInt8) (c d : Int) : Int := if c = 0 ∧ ¬ a = [] ∧ ¬ b = [] then d else c
def meetO (c op o : Int) : Bool :=
 if c < 0 then !decide (Go.bits .and .i64 op 4 = 0) || !decide (Go.bits .and .i64 o 1 = 0)
 else if 0 < c then !decide (Go.bits .and .i64 op 1 = 0) || !decide (Go.bits .and .i64 o 4 = 0)
 else !decide (Go.bits .and .i64 op o = 0)
def meetV (k : Int) (a b : List UInt8) : Int := meetC (bothR k a b).1.2.2 (bothR k a b).2.1.2.2 (evrPartsN k (bothR k a b).1 (bothR k a b).2.1).1 (evrPartsN k (bothR k a b).1 (bothR k a b).2.1).2
def meetsN (k op : Int) (a : List UInt8) (o : Int) (b : List UInt8) : Bool × Int :=
 if (¬ k = 1 ∧ ¬ k = 2) ∨ op < 0 ∨ 7 < op ∨ o < 0 ∨ 7 < o then (false, 1)
 else if op = 0 ∨ o = 0 then (true, 0)
 else if ¬ (bothR k a b).2.2 = 0 then (false, (bothR k a b).2.2)
 else (meetO (meetV k a b) op o, 0)
theorem evrP_len (l : List UInt8) : (evrP l).1.length ≤ l.length ∧ (evrP l).2.1.length ≤ l.length ∧ (evrP l).2.2.length ≤ l.length := by
 unfold evrP
 split
 ·unfold evrParts
  refine ⟨?_, ?_, ?_⟩
  ·show (if _ then _ else _ : List UInt8).length ≤ _
   split <;> simp; omega
  ·show (if _ then _ else _ : List UInt8).length ≤ _
   split <;> (try rw [List.length_take]) <;> split <;> simp <;> omega
  ·show (if _ then _ else _ : List UInt8).length ≤ _
   split <;> (try rw [List.length_drop]) <;> (try split) <;> simp <;> omega
 ·simp
theorem bothR_len (k : Int) (a b : List UInt8) : (bothR k a b).1.1.length ≤ a.length ∧ (bothR k a b).1.2.1.length ≤ a.length ∧ (bothR k a b).1.2.2.length ≤ a.length ∧ (bothR k a b).2.1.1.length ≤ b.length ∧ (bothR k a b).2.1.2.1.length ≤ b.length ∧ (bothR k a b).2.1.2.2.length ≤ b.length := by
 have h1 := evrP_len a
 have h2 := evrP_len b
 unfold bothR
 split
 ·simp
 ·split <;> simp <;> omega
set_option maxHeartbeats 1000000 in
set_option maxRecDepth 100000 in
theorem parts_ok (k : Int) (a b : (List UInt8 × List UInt8 × List UInt8)) (ha : a.1.length ≤ 4194304 ∧ a.2.1.length ≤ 4194304 ∧ a.2.2.length ≤ 4194304) (hb : b.1.length ≤ 4194304 ∧ b.2.1.length ≤ 4194304 ∧ b.2.2.length ≤ 4194304) :
  FnV Tryz.prog 131 [(.int .i64 k), (.agg [(.str a.1), (.str a.2.1), (.str a.2.2)]), (.agg [(.str b.1), (.str b.2.1), (.str b.2.2)])] (.tup [.int .i64 (evrPartsN k a b).1, .int .i64 (evrPartsN k a b).2]) := by
 refine FnV_intro [.tmp 6, .tmp 7] Tryz.func131 rfl Tryz.ntmps131 rfl rfl (fun B F hF => ?_)
 refine SW_H [] [0, 4, 5] [(1, 4), (2, 5)] hk0 v0 c0 ?_
 refine SW_H [] [0, 4, 5, 8] [] (hk 4 en_163 (numbers_ok a.1 b.1) <| hk0) v0 c0 ?_
 refine SW_seq ?_
 refine SW_P [] [4, 5, 8, 15] ?_
 refine SW_if (p := k = 2) (by kernel_rfl) (fun c1 => ?_) (fun c1 => ?_)
 ·refine SW_D [] [6, 7] [(7, 22), (11, 26), (15, 30)] (hk 5 en_164 (deb_okN a.2.1 b.2.1 (by omega) (by omega)) <| hk 7 en_130 (or_ok (numbersN a.1 b.1) (debN a.2.1 b.2.1)) <| hk 11 en_165 (orS_ok a.2.2 [48]) <| hk 15 en_165 (orS_ok b.2.2 [48]) <| hk 16 en_164 (deb_okN (orS a.2.2 [48]) (orS b.2.2 [48]) (by exact orS_len (by first | exact ha.2.2 | exact hb.2.2)) (by exact orS_len (by first | exact ha.2.2 | exact hb.2.2))) <| hk0) (vk 7 22 (b := (nums [numbersN a.1 b.1, debN a.2.1 b.2.1])) (Imp.list (f := AV.int .i64) rfl) <| vk 11 26 (b := (strs ([a.2.2, [48]]))) (Imp.list (f := AV.str) rfl) <| vk 15 30 (b := (strs ([b.2.2, [48]]))) (Imp.list (f := AV.str) rfl) <| v0) c0 ?_
  refine SW_ret ?_
  refine RK wR [(.int .i64 (orI (numbersN a.1 b.1) (debN a.2.1 b.2.1))), (.int .i64 (debN (orS a.2.2 [48]) (orS b.2.2 [48])))] ?_
  refine Same.of_eq ?_
  simp only [pack]
  unfold evrPartsN
  rw [if_pos c1]
 ·refine SW_skip ?_
  refine SW_H [] [4, 5, 8] [(7, 39)] (hk 5 en_166 (rpm_okN a.2.1 b.2.1 (by omega) (by omega)) <| hk 7 en_130 (or_ok (numbersN a.1 b.1) (rpmN a.2.1 b.2.1)) <| hk0) (vk 7 39 (b := (nums [numbersN a.1 b.1, rpmN a.2.1 b.2.1])) (Imp.list (f := AV.int .i64) rfl) <| v0) c0 ?_
  refine SW_seq ?_
  refine SW_H (CS := [(5, ((!(decide (a.2.2 = []))) = true → (!(decide (a.2.2 = []))) = true)), (6, ((!(decide (a.2.2 = []))) = true → (!(decide (a.2.2 = []))) = true)), (7, ((decide (a.2.2 = [])) = false → (!(decide (a.2.2 = []))) = true))]) [45, 46, 47] [4, 5, 8, 48] [] hk0 v0 (by refine cc _ ?_ <| cc _ ?_ <| cc _ ?_ c0 <;> first | omega | (simp; omega) | (simp; done) | (intros; simp_all; omega) | (intros; simp_all; done)) ?_
  refine SW_cond (q := (decide (a.2.2 = [])) || (decide (b.2.2 = []))) (by kernel_rfl) (fun c2 => ?_) (fun c2 => ?_)
  ·try simp only [Bool.and_eq_true, Bool.or_eq_true, Bool.and_eq_false_iff, Bool.or_eq_false_iff, Bool.not_eq_true', Bool.not_eq_false', decide_eq_true_eq, decide_eq_false_iff_not] at c2
   refine SW_H [] [6, 7] [] (hk 7 en_167 (order_ok (!decide (a.2.2 = [])) (!decide (b.2.2 = [])) 1 (by omega)) <| hk0) v0 c0 ?_
   refine SW_ret ?_
   refine RK wR [(.int .i64 (orI (numbersN a.1 b.1) (rpmN a.2.1 b.2.1))), (.int .i64 (orderN (!decide (a.2.2 = [])) (!decide (b.2.2 = [])) 1))] ?_
   refine Same.of_eq ?_
   simp only [pack]
   unfold evrPartsN
   rw [if_neg c1, if_pos c2]
  ·try simp only [Bool.and_eq_true, Bool.or_eq_true, Bool.and_eq_false_iff, Bool.or_eq_false_iff, Bool.not_eq_true', Bool.not_eq_false', decide_eq_true_eq, decide_eq_false_iff_not] at c2
   refine SW_skip ?_
   refine SW_H [] [6, 7] [] (hk 5 en_166 (rpm_okN a.2.2 b.2.2 (by omega) (by omega)) <| hk0) v0 c0 ?_
   refine SW_ret ?_
   refine RK wR [(.int .i64 (orI (numbersN a.1 b.1) (rpmN a.2.1 b.2.1))), (.int .i64 (rpmN a.2.2 b.2.2))] ?_
   refine Same.of_eq ?_
   simp only [pack]
   unfold evrPartsN
   rw [if_neg c1, if_neg (by simp [c2.1, c2.2])]
set_option maxHeartbeats 1000000 in
set_option maxRecDepth 100000 in
theorem meets_ok (k op : Int) (a : List UInt8) (o : Int) (b : List UInt8) (ha : a.length ≤ 4194304) (hb : b.length ≤ 4194304) :
  FnV Tryz.prog 159 [(.int .i64 k), (.int .i64 op), (.str a), (.int .i64 o), (.str b)] (.tup [.bool (meetsN k op a o b).1, .int .i64 (meetsN k op a o b).2]) := by
 have hbl := bothR_len k a b
 refine FnV_intro [.tmp 10, .tmp 11] Tryz.func159 rfl Tryz.ntmps159 rfl rfl (fun B F hF => ?_)
 refine SW_P [] [0, 1, 2, 3, 4] ?_
 refine SW_seq ?_
 refine SW_block ?_
 refine SW_H (CS := [(4, ((!decide (k = 1)) = true → (!decide (k = 1)) = true)), (5, ((!decide (k = 1)) = true → (!decide (k = 1)) = true)), (8, ((!((!decide (k = 1)) && (!decide (k = 2)))) = true → (!((!decide (k = 1)) && (!decide (k = 2)))) = true)), (9, (((!decide (k = 1)) && (!decide (k = 2))) = false → (!((!decide (k = 1)) && (!decide (k = 2)))) = true)), (12, ((!(((!decide (k = 1)) && (!decide (k = 2))) || (decide (op < 0)))) = true → (!(((!decide (k = 1)) && (!decide (k = 2))) || (decide (op < 0)))) = true)), (13, ((((!decide (k = 1)) && (!decide (k = 2))) || (decide (op < 0))) = false → (!(((!decide (k = 1)) && (!decide (k = 2))) || (decide (op < 0)))) = true)), (16, ((!((((!decide (k = 1)) && (!decide (k = 2))) || (decide (op < 0))) || (decide (7 < op)))) = true → (!((((!decide (k = 1)) && (!decide (k = 2))) || (decide (op < 0))) || (decide (7 < op)))) = true)), (17, (((((!decide (k = 1)) && (!decide (k = 2))) || (decide (op < 0))) || (decide (7 < op))) = false → (!((((!decide (k = 1)) && (!decide (k = 2))) || (decide (op < 0))) || (decide (7 < op)))) = true)), (20, ((!(((((!decide (k = 1)) && (!decide (k = 2))) || (decide (op < 0))) || (decide (7 < op))) || (decide (o < 0)))) = true → (!(((((!decide (k = 1)) && (!decide (k = 2))) || (decide (op < 0))) || (decide (7 < op))) || (decide (o < 0)))) = true)), (21, ((((((!decide (k = 1)) && (!decide (k = 2))) || (decide (op < 0))) || (decide (7 < op))) || (decide (o < 0))) = false → (!(((((!decide (k = 1)) && (!decide (k = 2))) || (decide (op < 0))) || (decide (7 < op))) || (decide (o < 0)))) = true))]) [21, 22, 25, 26, 29, 30, 33, 34, 37, 38] [0, 1, 2, 3, 4, 17] [] hk0 v0 (by refine cc _ ?_ <| cc _ ?_ <| cc _ ?_ <| cc _ ?_ <| cc _ ?_ <| cc _ ?_ <| cc _ ?_ <| cc _ ?_ <| cc _ ?_ <| cc _ ?_ c0 <;> first | omega | (simp; omega) | (simp; done) | (intros; simp_all; omega) | (intros; simp_all; done)) ?_
 refine SW_cond (q := (((((!decide (k = 1)) && (!decide (k = 2))) || (decide (op < 0))) || (decide (7 < op))) || (decide (o < 0))) || (decide (7 < o))) (by kernel_rfl) (fun c1 => ?_) (fun c1 => ?_)
 ·try simp only [Bool.and_eq_true, Bool.or_eq_true, Bool.and_eq_false_iff, Bool.or_eq_false_iff, Bool.not_eq_true', Bool.not_eq_false', decide_eq_true_eq, decide_eq_false_iff_not] at c1
  refine SW_P [] [10, 11] ?_
  refine SW_ret ?_
  refine RK wR [(.bool false), (.int .i64 1)] ?_
  refine Same.of_eq ?_
  simp only [pack]
  rw [show meetsN k op a o b = (false, 1) from by unfold meetsN; rw [if_pos (by omega)]]
 ·try simp only [Bool.and_eq_true, Bool.or_eq_true, Bool.and_eq_false_iff, Bool.or_eq_false_iff, Bool.not_eq_true', Bool.not_eq_false', decide_eq_true_eq, decide_eq_false_iff_not] at c1
  refine SW_H (CS := [(4, ((!(decide (op = 0))) = true → (!(decide (op = 0))) = true)), (5, ((decide (op = 0)) = false → (!(decide (op = 0))) = true))]) [44, 45] [0, 1, 2, 3, 4, 40] [] hk0 v0 (by refine cc _ ?_ <| cc _ ?_ c0 <;> first | omega | (simp; omega) | (simp; done) | (intros; simp_all; omega) | (intros; simp_all; done)) ?_
  refine SW_cond (q := (decide (op = 0)) || (decide (o = 0))) (by kernel_rfl) (fun c2 => ?_) (fun c2 => ?_)
  ·try simp only [Bool.and_eq_true, Bool.or_eq_true, Bool.and_eq_false_iff, Bool.or_eq_false_iff, Bool.not_eq_true', Bool.not_eq_false', decide_eq_true_eq, decide_eq_false_iff_not] at c2
   refine SW_P [] [10, 11] ?_
   refine SW_ret ?_
   refine RK wR [(.bool true), (.int .i64 0)] ?_
   refine Same.of_eq ?_
   simp only [pack]
   rw [show meetsN k op a o b = (true, 0) from by unfold meetsN; rw [if_neg (by omega), if_pos (by omega)]]
  ·try simp only [Bool.and_eq_true, Bool.or_eq_true, Bool.and_eq_false_iff, Bool.or_eq_false_iff, Bool.not_eq_true', Bool.not_eq_false', decide_eq_true_eq, decide_eq_false_iff_not] at c2
   refine SW_skip ?_
   refine SW_H [] [0, 1, 3, 12, 13, 14] [(11, 12), (12, 13)] (hk 3 en_129 (both_ok k a b (by omega) (by omega)) <| hk0) v0 c0 ?_
   refine SW_seq ?_
   refine SW_P [] [0, 1, 3, 12, 13, 14, 56] ?_
   refine SW_ifn (p := ((bothR k a b).2.2) = 0) (by kernel_rfl) (fun c3 => ?_) (fun c3 => ?_)
   ·refine SW_P [] [10, 11] ?_
    refine SW_ret ?_
    refine RK wR [(.bool false), (.int .i64 ((bothR k a b).2.2))] ?_
    refine Same.of_eq ?_
    simp only [pack]
    rw [show meetsN k op a o b = (false, (bothR k a b).2.2) from by unfold meetsN; rw [if_neg (by omega), if_neg (by omega), if_pos (by omega)]]
   ·refine SW_skip ?_
    refine SW_H [] [1, 3, 12, 13, 15, 16] [] (hk 3 en_131 (parts_ok k (bothR k a b).1 (bothR k a b).2.1 ⟨by omega, by omega, by omega⟩ ⟨by omega, by omega, by omega⟩) <| hk0) v0 c0 ?_
    refine SW_C (fun y => ∃ (c : Int), c = meetC (bothR k a b).1.2.2 (bothR k a b).2.1.2.2 (evrPartsN k (bothR k a b).1 (bothR k a b).2.1).1 (evrPartsN k (bothR k a b).1 (bothR k a b).2.1).2 ∧ y = ⟨[(1, (.int .i64 op)), (3, (.int .i64 o)), (15, (.int .i64 c))], [], 2⟩) [1, 3, 15] 2 (by omega) ?_ ?_
    ·refine SW_H (CS := [(4, ((decide (((evrPartsN k (bothR k a b).1 (bothR k a b).2.1).1) = 0)) = true → (decide (((evrPartsN k (bothR k a b).1 (bothR k a b).2.1).1) = 0)) = true)), (5, ((decide (((evrPartsN k (bothR k a b).1 (bothR k a b).2.1).1) = 0)) = true → (decide (((evrPartsN k (bothR k a b).1 (bothR k a b).2.1).1) = 0)) = true)), (6, ((decide (((evrPartsN k (bothR k a b).1 (bothR k a b).2.1).1) = 0)) = true → (decide (((evrPartsN k (bothR k a b).1 (bothR k a b).2.1).1) = 0)) = true)), (9, (((decide (((evrPartsN k (bothR k a b).1 (bothR k a b).2.1).1) = 0)) && (!decide (((bothR k a b).1).2.2 = []))) = true → ((decide (((evrPartsN k (bothR k a b).1 (bothR k a b).2.1).1) = 0)) && (!decide (((bothR k a b).1).2.2 = []))) = true)), (10, (((decide (((evrPartsN k (bothR k a b).1 (bothR k a b).2.1).1) = 0)) && (!decide (((bothR k a b).1).2.2 = []))) = true → ((decide (((evrPartsN k (bothR k a b).1 (bothR k a b).2.1).1) = 0)) && (!decide (((bothR k a b).1).2.2 = []))) = true)), (11, (((decide (((evrPartsN k (bothR k a b).1 (bothR k a b).2.1).1) = 0)) && (!decide (((bothR k a b).1).2.2 = []))) = true → ((decide (((evrPartsN k (bothR k a b).1 (bothR k a b).2.1).1) = 0)) && (!decide (((bothR k a b).1).2.2 = []))) = true))]) [68, 69, 70, 73, 74, 75] [1, 3, 15, 16, 76] [] hk0 v0 (by refine cc _ ?_ <| cc _ ?_ <| cc _ ?_ <| cc _ ?_ <| cc _ ?_ <| cc _ ?_ c0 <;> first | omega | (simp; omega) | (simp; done) | (intros; simp_all; omega) | (intros; simp_all; done)) ?_
     refine SW_cond (q := ((decide (((evrPartsN k (bothR k a b).1 (bothR k a b).2.1).1) = 0)) && (!decide (((bothR k a b).1).2.2 = []))) && (!decide (((bothR k a b).2.1).2.2 = []))) (by kernel_rfl) (fun c4 => ?_) (fun c4 => ?_)
     ·try simp only [Bool.and_eq_true, Bool.or_eq_true, Bool.and_eq_false_iff, Bool.or_eq_false_iff, Bool.not_eq_true', Bool.not_eq_false', decide_eq_true_eq, decide_eq_false_iff_not] at c4
      refine SW_reg ?_
      refine SO_P [] [1, 3, 15] ?_
      refine ⟨by kernel_rfl, ((evrPartsN k (bothR k a b).1 (bothR k a b).2.1).2), ?_, (by kernel_rfl)⟩
      unfold meetC
      rw [if_pos (by simp_all)]
     ·try simp only [Bool.and_eq_true, Bool.or_eq_true, Bool.and_eq_false_iff, Bool.or_eq_false_iff, Bool.not_eq_true', Bool.not_eq_false', decide_eq_true_eq, decide_eq_false_iff_not] at c4
      refine SW_skip ?_
      refine ⟨by kernel_rfl, ((evrPartsN k (bothR k a b).1 (bothR k a b).2.1).1), ?_, (by kernel_rfl)⟩
      unfold meetC
      rw [if_neg (fun q => by simp [q.1, q.2.1, q.2.2] at c4)]
    ·rintro y1 ⟨c, jc, rfl⟩
     refine SW_seq ?_
     refine SW_block ?_
     refine SW_P [] [1, 3, 15, 78] ?_
     refine SW_if (p := c < 0) (by kernel_rfl) (fun c5 => ?_) (fun c5 => ?_)
     ·refine SW_seq ?_
      refine SW_reg ?_
      refine SO_H 1 0 [] [3, 81] [] hk0 v0 c0 ?_
      refine SO_by (s' := [(3, (.int .i64 o)), (81, (.int .i64 op)), (82, (.int .i64 (Go.bits .and .i64 op 4)))]) (.int .i64 (Go.bits .and .i64 op 4)) (by kernel_rfl) (and_by (.inl (by kernel_rfl)) (.inl (by kernel_rfl))) (by kernel_rfl) ?_
      refine SO_H 3 2 [85] [84, 85] [] hk0 v0 c0 ?_
      refine SO_byg (s' := [(84, (.bool (!decide ((Go.bits .and .i64 op 4) = 0)))), (85, (.cond (!(!decide ((Go.bits .and .i64 op 4) = 0))) (.int .i64 o))), (86, (.cond (!(!decide ((Go.bits .and .i64 op 4) = 0))) (.int .i64 (Go.bits .and .i64 o 1))))]) (q := !(!decide ((Go.bits .and .i64 op 4) = 0))) (.int .i64 (Go.bits .and .i64 o 1)) (by kernel_rfl) (fun cg => (and_by (.inr ⟨!(!decide ((Go.bits .and .i64 op 4) = 0)), by kernel_rfl, by first | exact cg | simp_all⟩) (.inl (by kernel_rfl)))) (by kernel_rfl) ?_
      refine SO_HA (CS := [(6, ((!(!decide ((Go.bits .and .i64 op 4) = 0))) = true → (!(!decide ((Go.bits .and .i64 op 4) = 0))) = true)), (7, ((!decide ((Go.bits .and .i64 op 4) = 0)) = false → (!(!decide ((Go.bits .and .i64 op 4) = 0))) = true))]) 6 [87] [10, 11] [] hk0 v0 (by refine cc _ ?_ <| cc _ ?_ c0 <;> first | omega | (simp; omega) | (simp; done) | (intros; simp_all; omega) | (intros; simp_all; done)) ?_
      refine SW_ret ?_
      refine RK wR [(.bool ((!decide ((Go.bits .and .i64 op 4) = 0)) || (!decide ((Go.bits .and .i64 o 1) = 0)))), (.int .i64 0)] ?_
      refine Same.of_eq ?_
      simp only [pack]
      rw [show meetsN k op a o b = (meetO (meetV k a b) op o, 0) from by unfold meetsN; rw [if_neg (by omega), if_neg (by omega), if_neg (by omega)]]
      rw [show meetV k a b = c from jc.symm]
      unfold meetO
      rw [if_pos (by omega)]
     ·refine SW_P [] [1, 3, 89] ?_
      refine SW_if (p := 0 < c) (by kernel_rfl) (fun c6 => ?_) (fun c6 => ?_)
      ·refine SW_seq ?_
       refine SW_reg ?_
       refine SO_H 1 0 [] [3, 92] [] hk0 v0 c0 ?_
       refine SO_by (s' := [(3, (.int .i64 o)), (92, (.int .i64 op)), (93, (.int .i64 (Go.bits .and .i64 op 1)))]) (.int .i64 (Go.bits .and .i64 op 1)) (by kernel_rfl) (and_by (.inl (by kernel_rfl)) (.inl (by kernel_rfl))) (by kernel_rfl) ?_
       refine SO_H 3 2 [96] [95, 96] [] hk0 v0 c0 ?_
       refine SO_byg (s' := [(95, (.bool (!decide ((Go.bits .and .i64 op 1) = 0)))), (96, (.cond (!(!decide ((Go.bits .and .i64 op 1) = 0))) (.int .i64 o))), (97, (.cond (!(!decide ((Go.bits .and .i64 op 1) = 0))) (.int .i64 (Go.bits .and .i64 o 4))))]) (q := !(!decide ((Go.bits .and .i64 op 1) = 0))) (.int .i64 (Go.bits .and .i64 o 4)) (by kernel_rfl) (fun cg => (and_by (.inr ⟨!(!decide ((Go.bits .and .i64 op 1) = 0)), by kernel_rfl, by first | exact cg | simp_all⟩) (.inl (by kernel_rfl)))) (by kernel_rfl) ?_
       refine SO_HA (CS := [(6, ((!(!decide ((Go.bits .and .i64 op 1) = 0))) = true → (!(!decide ((Go.bits .and .i64 op 1) = 0))) = true)), (7, ((!decide ((Go.bits .and .i64 op 1) = 0)) = false → (!(!decide ((Go.bits .and .i64 op 1) = 0))) = true))]) 6 [98] [10, 11] [] hk0 v0 (by refine cc _ ?_ <| cc _ ?_ c0 <;> first | omega | (simp; omega) | (simp; done) | (intros; simp_all; omega) | (intros; simp_all; done)) ?_
       refine SW_ret ?_
       refine RK wR [(.bool ((!decide ((Go.bits .and .i64 op 1) = 0)) || (!decide ((Go.bits .and .i64 o 4) = 0)))), (.int .i64 0)] ?_
       refine Same.of_eq ?_
       simp only [pack]
       rw [show meetsN k op a o b = (meetO (meetV k a b) op o, 0) from by unfold meetsN; rw [if_neg (by omega), if_neg (by omega), if_neg (by omega)]]
       rw [show meetV k a b = c from jc.symm]
       unfold meetO
       rw [if_neg (by omega), if_pos (by omega)]
      ·refine SW_skip ?_
       refine SW_seq ?_
       refine SW_reg ?_
       refine SO_H 2 0 [] [100, 101] [] hk0 v0 c0 ?_
       refine SO_by (s' := [(100, (.int .i64 op)), (101, (.int .i64 o)), (102, (.int .i64 (Go.bits .and .i64 op o)))]) (.int .i64 (Go.bits .and .i64 op o)) (by kernel_rfl) (and_by (.inl (by kernel_rfl)) (.inl (by kernel_rfl))) (by kernel_rfl) ?_
       refine SO_HA 3 [] [10, 11] [] hk0 v0 c0 ?_
       refine SW_ret ?_
       refine RK wR [(.bool (!decide ((Go.bits .and .i64 op o) = 0))), (.int .i64 0)] ?_
       refine Same.of_eq ?_
       simp only [pack]
       rw [show meetsN k op a o b = (meetO (meetV k a b) op o, 0) from by unfold meetsN; rw [if_neg (by omega), if_neg (by omega), if_neg (by omega)]]
       rw [show meetV k a b = c from jc.symm]
       unfold meetO
       rw [if_neg (by omega), if_neg (by omega)]
theorem meets_all : MeetsOk meetsN := fun k op a o b ha hb => meets_ok k op a o b ha hb
end Sv
end Go.Proofs.YtlfjokcbkopfeaaGreatDoor
end
section
namespace Go.Proofs.YtlfjokcbkopfeaaGreatDoor
open Go Go.RowKit
namespace Sv
attribute [local irreducible] SW SO holds
theorem en_35 : Enters Tryz.prog 35 := enters_of Tryz.func35 (by kernel_rfl) rfl
theorem en_34 : Enters Tryz.prog 34 := enters_of Tryz.func34 (by kernel_rfl) rfl
theorem en_25 : Enters Tryz.prog 25 := enters_of Tryz.func25 (by kernel_rfl) rfl
theorem take_nextI {α : Type} [Inhabited α] {l : List α} {i : Nat} (h : i < l.length) : l.take (i + 1) = l.take i ++ [nth l i] := by
 rw [List.take_add_one, nth_eq h]; rfl
theorem range_cutI {α β : Type} [Inhabited α] {l : List α} {i m : Nat} (f : α → β) (h : i + m ≤ l.length) : (List.range m).map (fun k => f (nth l (i + k))) = ((l.drop i).take m).map f := by
 refine List.ext_getElem (by simp; omega) fun j h1 h2 => ?_
 simp only [List.length_map, List.length_range] at h1
 simp only [List.getElem_map, List.getElem_range, List.getElem_take, List.getElem_drop, nth, List.getElem?_eq_getElem (show i + j < l.length by omega), Option.getD_some]
theorem range_tailI {α β : Type} [Inhabited α] {l : List α} {i : Nat} (f : α → β) (h : i ≤ l.length) : (List.range (l.length - i)).map (fun k => f (nth l (i + k))) = (l.drop i).map f := by
 rw [range_cutI f (by omega), List.take_of_length_le (by simp)]
def put1 (n : Int) : List Int → List Int
 | [] => [n]
 | x :: r => if x < n then x :: put1 n r else if x = n then x :: r else n :: x :: r
theorem put1_go {n : Int} {l : List Int} {i : Nat} (hi : i < l.length) (h : nth l i < n) : put1 n (l.drop i) = nth l i :: put1 n (l.drop (i + 1)) := by rw [drop_nth hi, put1, if_pos h]
theorem put1_is {n : Int} {l : List Int} {i : Nat} (hi : i < l.length) (h : ¬ nth l i < n) (h2 : nth l i = n) : put1 n (l.drop i) = l.drop i := by rw [drop_nth hi, put1, if_neg h, if_pos h2]
theorem put1_new {n : Int} {l : List Int} {i : Nat} (h : i < l.length → ¬ nth l i < n ∧ ¬ nth l i = n) : put1 n (l.drop i) = n :: l.drop i := by
 by_cases hi : i < l.length
 ·rw [drop_nth hi, put1, if_neg (h hi).1, if_neg (h hi).2]
 ·rw [List.drop_eq_nil_of_le (by omega)]; rfl
theorem put1_len (n : Int) : ∀ l : List Int, (put1 n l).length ≤ l.length + 1
 | [] => Nat.le_refl _
 | x :: r => by
  have := put1_len n r
  unfold put1
  split
  ·simp only [List.length_cons]; omega
  ·split <;> simp
theorem put1_mem {x n : Int} : ∀ {l : List Int}, x ∈ put1 n l ↔ x = n ∨ x ∈ l
 | [] => by simp [put1]
 | y :: r => by
  unfold put1
  split
  ·rw [List.mem_cons, put1_mem, List.mem_cons]
   constructor
   ·rintro (h | h | h) <;> simp [h]
   ·rintro (h | h | h) <;> simp [h]
  ·split
   ·rename_i h; subst h; simp
   ·rw [List.mem_cons]
def RiseI : List Int → Prop
 | [] => True
 | x :: r => (∀ y ∈ r, x < y) ∧ RiseI r
def idN (n : Nat) (x : Int) : Int := Int.tmod (if x < 0 then 0 - (x + 1) else x) (n : Int)
def allG (n : Nat) (l : List Int) : List Int := l.foldl (fun s x => put1 (idN n x) s) []
def allP (n : Nat) (l : List Int) : List Int := if n = 0 then [] else allG n l
theorem allG_next {n : Nat} {l : List Int} {i : Nat} (h : i < l.length) : allG n (l.take (i + 1)) = put1 (idN n (nth l i)) (allG n (l.take i)) := by
 unfold allG; rw [take_nextI h, List.foldl_append]; rfl
theorem foldl_put1 {n : Nat} : ∀ {l s : List Int}, (l.foldl (fun s x => put1 (idN n x) s) s).length ≤ s.length + l.length
 | [], s => Nat.le_refl _
 | x :: l, s => by
  have h1 := foldl_put1 (n := n) (l := l) (s := put1 (idN n x) s)
  have h2 := put1_len (idN n x) s
  simp only [List.foldl_cons, List.length_cons]; omega
theorem allG_len (n : Nat) (l : List Int) : (allG n l).length ≤ l.length := by have := foldl_put1 (n := n) (l := l) (s := []); simpa [allG] using this
theorem allP_len (n : Nat) (l : List Int) : (allP n l).length ≤ l.length := by
 unfold allP
 split
 ·simp
 ·exact allG_len n l
theorem foldl_mem {n : Nat} {x : Int} : ∀ {l s : List Int}, x ∈ l.foldl (fun s x => put1 (idN n x) s) s ↔ x ∈ s ∨ ∃ y ∈ l, x = idN n y
 | [], s => by simp
 | y :: l, s => by
  rw [List.foldl_cons, foldl_mem, put1_mem]
  constructor
  ·rintro ((h | h) | ⟨z, hz, h⟩)
   ·exact .inr ⟨y, by simp, h⟩
   ·exact .inl h
   ·exact .inr ⟨z, by simp [hz], h⟩
  ·rintro (h | ⟨z, hz, h⟩)
   ·exact .inl (.inr h)
   ·rcases List.mem_cons.1 hz with rfl | hz
    ·exact .inl (.inl h)
    ·exact .inr ⟨z, hz, h⟩
theorem allP_mem {n : Nat} {l : List Int} {x : Int} : x ∈ allP n l ↔ ¬ n = 0 ∧ ∃ y ∈ l, x = idN n y := by
 unfold allP
 split
 ·rename_i h; simp [h]
 ·rename_i h; unfold allG; rw [foldl_mem]; simp [h]
theorem idN_in {n : Nat} (h : ¬ n = 0) (x : Int) : 0 ≤ idN n x ∧ idN n x < n := by
 unfold idN
 have h0 : 0 ≤ (if x < 0 then 0 - (x + 1) else x) := by split <;> omega
 rw [Int.tmod_eq_emod_of_nonneg h0]
 exact ⟨Int.emod_nonneg _ (by omega), Int.emod_lt_of_pos _ (by omega)⟩
theorem allP_in {n : Nat} {l : List Int} {x : Int} (h : x ∈ allP n l) : 0 ≤ x ∧ x < n := by
 obtain ⟨h0, y, _, rfl⟩ := allP_mem.1 h
 exact idN_in h0 y
set_option maxHeartbeats 400000 in
set_option maxRecDepth 100000 in
theorem put1_ok (l : List Int) (n : Int) (hl : l.length ≤ 4611686018427) :
  FnV Tryz.prog 35 [(nums l), (.int .i64 n)] (nums (put1 n l)) := by
 refine FnV_intro [.tmp 4] Tryz.func35 rfl Tryz.ntmps35 rfl rfl (fun B F hF => ?_)
 refine SW_P [] [0, 1] ?_
 refine SW_P [] [0, 1, 5] ?_
 refine SW_seq ?_
 refine SW_block ?_
 refine SW_L (fun g y => ∃ (i : Nat), i ≤ l.length ∧ put1 n l = l.take i ++ put1 n (l.drop i) ∧ y = ⟨[(0, (nums l)), (1, (.int .i64 n)), (5, (.int .i64 ((i : Int))))], [], 0⟩ ∧ g = l.length - i) [0, 1, 5] 0 _ (by omega) ⟨0, (by omega), (by rfl), (by kernel_rfl), rfl⟩ ?_
 rintro g1 y1 ⟨i, f1_1, f1_2, rfl, rfl⟩
 refine SW_seq ?_
 obtain ⟨b1, hb1⟩ : ∃ b, b = (decide ((i : Int) < (l.length : Int))) := ⟨_, rfl⟩
 refine SW_H (CS := [(7, (b1 = true → (b1 = true ∧ b1 = true) ∧ (0 ≤ (i : Int) ∧ i < l.length))), (8, (b1 = true → b1 = true)), (10, (b1 = true → b1 = true ∧ b1 = true)), (11, (b1 = true → b1 = true))]) [11, 12, 13, 14, 15, 16] [0, 1, 5, 17] [] hk0 (vk 5 10 (a := .bool (decide ((i : Int) < (l.length : Int)))) (b := .bool b1) (Imp.of_eq (by rw [hb1])) <| v0) (by refine cc _ ?_ <| cc _ ?_ <| cc _ ?_ <| cc _ ?_ c0 <;> first | omega | (simp; omega) | (simp; done) | (intros; simp_all; omega) | (intros; simp_all; done)) ?_
 refine SW_cond (q := b1 && (decide ((nth l i) < n))) (by kernel_rfl) (fun c1 => ?_) (fun c1 => ?_)
 ·subst hb1
  try simp only [Bool.and_eq_true, Bool.or_eq_true, Bool.and_eq_false_iff, Bool.or_eq_false_iff, Bool.not_eq_true', Bool.not_eq_false', decide_eq_true_eq, decide_eq_false_iff_not] at c1
  refine SW_skip ?_
  refine SW_block ?_
  refine SW_reg ?_
  refine SO_HA 0 [] [0, 1, 5] [] hk0 v0 (cc 1 (p := (-9223372036854775808 ≤ (i : Int) + 1 ∧ (i : Int) + 1 ≤ 9223372036854775807)) (by first | omega | (simp; omega) | (simp; done) | (intros; simp_all; omega) | (intros; simp_all; done)) <| c0) ?_
  refine ⟨by kernel_rfl, _, ?_, i + 1, ?_, ?_, (by kernel_rfl), rfl⟩
  all_goals first | omega | skip
  rw [f1_2, put1_go (by omega) (by simp_all), take_nextI (by omega), List.append_assoc]; rfl
 ·subst hb1
  try simp only [Bool.and_eq_true, Bool.or_eq_true, Bool.and_eq_false_iff, Bool.or_eq_false_iff, Bool.not_eq_true', Bool.not_eq_false', decide_eq_true_eq, decide_eq_false_iff_not] at c1
  refine SW_exit ?_
  refine SW_seq ?_
  obtain ⟨b2, hb2⟩ : ∃ b, b = (decide ((i : Int) < (l.length : Int))) := ⟨_, rfl⟩
  refine SW_H (CS := [(7, (b2 = true → (b2 = true ∧ b2 = true) ∧ (0 ≤ (i : Int) ∧ i < l.length))), (8, (b2 = true → b2 = true)), (10, (b2 = true → b2 = true ∧ b2 = true)), (11, (b2 = true → b2 = true))]) [25, 26, 27, 28, 29, 30] [0, 1, 5, 31] [] hk0 (vk 5 24 (a := .bool (decide ((i : Int) < (l.length : Int)))) (b := .bool b2) (Imp.of_eq (by rw [hb2])) <| v0) (by refine cc _ ?_ <| cc _ ?_ <| cc _ ?_ <| cc _ ?_ c0 <;> first | omega | (simp; omega) | (simp; done) | (intros; simp_all; omega) | (intros; simp_all; done)) ?_
  refine SW_cond (q := b2 && (decide ((nth l i) = n))) (by kernel_rfl) (fun c2 => ?_) (fun c2 => ?_)
  ·subst hb2
   try simp only [Bool.and_eq_true, Bool.or_eq_true, Bool.and_eq_false_iff, Bool.or_eq_false_iff, Bool.not_eq_true', Bool.not_eq_false', decide_eq_true_eq, decide_eq_false_iff_not] at c2
   refine SW_P [] [4] ?_
   refine SW_ret ?_
   refine RK wR [(nums l)] ?_
   exact Same.of_eq (by rw [f1_2, put1_is (by omega) (by simp_all) (by simp_all), List.take_append_drop]; rfl)
  ·subst hb2
   try simp only [Bool.and_eq_true, Bool.or_eq_true, Bool.and_eq_false_iff, Bool.or_eq_false_iff, Bool.not_eq_true', Bool.not_eq_false', decide_eq_true_eq, decide_eq_false_iff_not] at c2
   refine SW_skip ?_
   refine SW_seq ?_
   refine SW_draw (by kernel_rfl) (fun F1 hF1 => ?_)
   refine SG_F (fuel := 6) [] [1, 2, 3, 5, 8, 9, 10] [36, 38, 43] (hold (p := (0 ≤ (0 : Int) ∧ (0 : Int) ≤ (i : Int) ∧ (i : Int) ≤ (l.length : Int)) ∧ (0 ≤ (i : Int) ∧ (i : Int) ≤ (l.length : Int) ∧ (l.length : Int) ≤ (l.length : Int))) (by first | omega | (simp; omega) | (simp; done) | (intros; simp_all; omega) | (intros; simp_all; done))) ?_
   refine SG_two 0 6 (by kernel_rfl) ?_ ?_
   ·refine SN_I (fuel := 5) 0 [] hold0 ?_
    refine SG_S [33, 36, 38, 43] ?_
    refine SG_two 4 6 (by kernel_rfl) ?_ ?_
    ·refine SN_I (fuel := 4) 4 [] (hold (p := ((([] : List AV).length + (i - 0)) * 8 ≤ 140737488355328)) (by first | omega | (simp; omega) | (simp; done) | (intros; simp_all; omega) | (intros; simp_all; done))) ?_
     refine SG_S [37, 38, 43] ?_
     refine SG_I (fuel := 3) 6 [] hold0 ?_
     refine SG_I (fuel := 2) 7 [] (hold (p := (((([] : List AV) ++ ((List.range (i - 0)).map (fun kx => ((.int .i64 (nth l (0 + kx))) : AV)))).length + 1) * 8 ≤ 140737488355328)) (by first | omega | (simp; omega) | (simp; done) | (intros; simp_all; omega) | (intros; simp_all; done))) ?_
     refine SG_I (fuel := 1) 11 [] (hold (p := ((((([] : List AV) ++ ((List.range (i - 0)).map (fun kx => ((.int .i64 (nth l (0 + kx))) : AV)))) ++ ([(.int .i64 n)] : List AV)).length + (l.length - i)) * 8 ≤ 140737488355328)) (by first | omega | (simp; omega) | (simp; done) | (intros; simp_all; omega) | (intros; simp_all; done))) ?_
     refine SG_F (fuel := 0) [] [12] [4] hold0 ?_
     refine SG_S [4] ?_
     refine SG_done (by kernel_rfl) ?_
     refine SW_ret ?_
     refine RK wR [(.row 1 (((([] : List AV) ++ ((List.range (i - 0)).map (fun kx => ((.int .i64 (nth l (0 + kx))) : AV)))) ++ ([(.int .i64 n)] : List AV)) ++ ((List.range (l.length - i)).map (fun kx => ((.int .i64 (nth l (i + kx))) : AV)))).length (fun ix => (((([] : List AV) ++ ((List.range (i - 0)).map (fun kx => ((.int .i64 (nth l (0 + kx))) : AV)))) ++ ([(.int .i64 n)] : List AV)) ++ ((List.range (l.length - i)).map (fun kx => ((.int .i64 (nth l (i + kx))) : AV)))).getD ix junk))] ?_
     simp only [pack]
     exact Same.grown (f := AV.int .i64) (l := put1 n l) (by rw [f1_2, put1_new (fun _ => by simp_all), range_cutI (AV.int .i64) (by omega), range_tailI (AV.int .i64) (by omega)]; simp [chunk])
    ·refine SN_I (fuel := 4) 6 [] hold0 ?_
     refine SG_S [33, 36, 39, 43] ?_
     refine SG_I (fuel := 3) 4 [] (hold (p := ((([] : List AV).length + (i - 0)) * 8 ≤ 140737488355328)) (by first | omega | (simp; omega) | (simp; done) | (intros; simp_all; omega) | (intros; simp_all; done))) ?_
     refine SG_I (fuel := 2) 7 [] (hold (p := (((([] : List AV) ++ ((List.range (i - 0)).map (fun kx => ((.int .i64 (nth l (0 + kx))) : AV)))).length + 1) * 8 ≤ 140737488355328)) (by first | omega | (simp; omega) | (simp; done) | (intros; simp_all; omega) | (intros; simp_all; done))) ?_
     refine SG_I (fuel := 1) 11 [] (hold (p := ((((([] : List AV) ++ ((List.range (i - 0)).map (fun kx => ((.int .i64 (nth l (0 + kx))) : AV)))) ++ ([(.int .i64 n)] : List AV)).length + (l.length - i)) * 8 ≤ 140737488355328)) (by first | omega | (simp; omega) | (simp; done) | (intros; simp_all; omega) | (intros; simp_all; done))) ?_
     refine SG_F (fuel := 0) [] [12] [4] hold0 ?_
     refine SG_S [4] ?_
     refine SG_done (by kernel_rfl) ?_
     refine SW_ret ?_
     refine RK wR [(.row 1 (((([] : List AV) ++ ((List.range (i - 0)).map (fun kx => ((.int .i64 (nth l (0 + kx))) : AV)))) ++ ([(.int .i64 n)] : List AV)) ++ ((List.range (l.length - i)).map (fun kx => ((.int .i64 (nth l (i + kx))) : AV)))).length (fun ix => (((([] : List AV) ++ ((List.range (i - 0)).map (fun kx => ((.int .i64 (nth l (0 + kx))) : AV)))) ++ ([(.int .i64 n)] : List AV)) ++ ((List.range (l.length - i)).map (fun kx => ((.int .i64 (nth l (i + kx))) : AV)))).getD ix junk))] ?_
     simp only [pack]
     exact Same.grown (f := AV.int .i64) (l := put1 n l) (by rw [f1_2, put1_new (fun _ => by simp_all), range_cutI (AV.int .i64) (by omega), range_tailI (AV.int .i64) (by omega)]; simp [chunk])
   ·refine SN_I (fuel := 5) 6 [] hold0 ?_
    refine SG_S [36, 39, 43] ?_
    refine SG_I (fuel := 4) 0 [] hold0 ?_
    refine SG_I (fuel := 3) 4 [] (hold (p := ((([] : List AV).length + (i - 0)) * 8 ≤ 140737488355328)) (by first | omega | (simp; omega) | (simp; done) | (intros; simp_all; omega) | (intros; simp_all; done))) ?_
    refine SG_I (fuel := 2) 7 [] (hold (p := (((([] : List AV) ++ ((List.range (i - 0)).map (fun kx => ((.int .i64 (nth l (0 + kx))) : AV)))).length + 1) * 8 ≤ 140737488355328)) (by first | omega | (simp; omega) | (simp; done) | (intros; simp_all; omega) | (intros; simp_all; done))) ?_
    refine SG_I (fuel := 1) 11 [] (hold (p := ((((([] : List AV) ++ ((List.range (i - 0)).map (fun kx => ((.int .i64 (nth l (0 + kx))) : AV)))) ++ ([(.int .i64 n)] : List AV)).length + (l.length - i)) * 8 ≤ 140737488355328)) (by first | omega | (simp; omega) | (simp; done) | (intros; simp_all; omega) | (intros; simp_all; done))) ?_
    refine SG_F (fuel := 0) [] [12] [4] hold0 ?_
    refine SG_S [4] ?_
    refine SG_done (by kernel_rfl) ?_
    refine SW_ret ?_
    refine RK wR [(.row 1 (((([] : List AV) ++ ((List.range (i - 0)).map (fun kx => ((.int .i64 (nth l (0 + kx))) : AV)))) ++ ([(.int .i64 n)] : List AV)) ++ ((List.range (l.length - i)).map (fun kx => ((.int .i64 (nth l (i + kx))) : AV)))).length (fun ix => (((([] : List AV) ++ ((List.range (i - 0)).map (fun kx => ((.int .i64 (nth l (0 + kx))) : AV)))) ++ ([(.int .i64 n)] : List AV)) ++ ((List.range (l.length - i)).map (fun kx => ((.int .i64 (nth l (i + kx))) : AV)))).getD ix junk))] ?_
    simp only [pack]
    exact Same.grown (f := AV.int .i64) (l := put1 n l) (by rw [f1_2, put1_new (fun _ => by simp_all), range_cutI (AV.int .i64) (by omega), range_tailI (AV.int .i64) (by omega)]; simp [chunk])
set_option maxHeartbeats 400000 in
set_option maxRecDepth 100000 in
theorem rLen_ok (st : PoolT) (pl : List (Int × Int)) :
  FnV Tryz.prog 34 [(.fp (poolR st pl))] (.int .i64 ((pl.length : Int))) := by
 refine FnV_intro [.tmp 2] Tryz.func34 rfl Tryz.ntmps34 rfl rfl (fun B F hF => ?_)
 refine SW_P [] [0] ?_
 refine SW_P [] [2] ?_
 refine SW_ret ?_
 refine RK wR [(.int .i64 ((pl.length : Int)))] ?_
 exact Same.of_eq (by first | rfl | (simp only [pack]; simp_all))
set_option maxHeartbeats 1000000 in
set_option maxRecDepth 100000 in
theorem rAll_ok (st : PoolT) (pl : List (Int × Int)) (raw : List Int) (hpl : pl.length ≤ 200) (hr : raw.length ≤ 4611686018426) (hb : ∀ i, i < raw.length → -9223372036854775808 ≤ nth raw i ∧ nth raw i ≤ 9223372036854775807) :
  FnV Tryz.prog 25 [(.fp (poolR st pl)), (nums raw)] (nums (allP pl.length raw)) := by
 refine FnV_intro [.tmp 4] Tryz.func25 rfl Tryz.ntmps25 rfl rfl (fun B F hF => ?_)
 refine SW_P [] [0, 1] ?_
 refine SW_P [] [0, 1, 5] ?_
 refine SW_seq ?_
 refine SW_seq ?_
 refine SW_reg ?_
 refine SO_conv 5 (nums []) (by kernel_rfl) Imp.nil ?_
 refine SO_P [] [0, 1, 5, 6] ?_
 refine SW_block ?_
 refine SW_L (fun g y => ∃ (i : Nat), i ≤ raw.length ∧ (pl.length = 0 → i = 0) ∧ y = ⟨[(0, (.fp (poolR st pl))), (1, (nums raw)), (5, (nums (allG pl.length (raw.take i)))), (6, (.int .i64 ((i : Int))))], [], 0⟩ ∧ g = raw.length - i) [0, 1, 5, 6] 0 _ (by omega) ⟨0, (by omega), (by exact fun _ => rfl), (by kernel_rfl), rfl⟩ ?_
 rintro g1 y1 ⟨i, f1_1, f1_2, rfl, rfl⟩
 refine SW_seq ?_
 obtain ⟨b1, hb1⟩ : ∃ b, b = (decide ((i : Int) < (raw.length : Int))) := ⟨_, rfl⟩
 refine SW_H (CS := [(6, b1 = true → b1 = true), (7, (b1 = true → b1 = true)), (8, (b1 = true → b1 = true))]) [13, 15] [0, 1, 5, 6, 16] [] (hkg 6 b1 en_34 (fun cg => rLen_ok st pl) <| hk0) (vk 5 12 (a := .bool (decide ((i : Int) < (raw.length : Int)))) (b := .bool b1) (Imp.of_eq (by rw [hb1])) <| v0) (by refine cc _ ?_ <| cc _ ?_ <| cc _ ?_ c0 <;> first | omega | (simp; omega) | (simp; done) | (intros; simp_all; omega) | (intros; simp_all; done)) ?_
 refine SW_cond (q := b1 && (decide (0 < (pl.length : Int)))) (by kernel_rfl) (fun c1 => ?_) (fun c1 => ?_)
 ·subst hb1
  try simp only [Bool.and_eq_true, Bool.or_eq_true, Bool.and_eq_false_iff, Bool.or_eq_false_iff, Bool.not_eq_true', Bool.not_eq_false', decide_eq_true_eq, decide_eq_false_iff_not] at c1
  have hbi := hb i (by omega)
  refine SW_skip ?_
  refine SW_seq ?_
  refine SW_block ?_
  refine SW_H [] [0, 1, 5, 6, 7] [] hk0 v0 (cc 2 (p := (0 ≤ (i : Int) ∧ i < raw.length)) (by first | omega | (simp; omega) | (simp; done) | (intros; simp_all; omega) | (intros; simp_all; done)) <| c0) ?_
  refine SW_C (fun y => ∃ (v : Int), v = (if nth raw i < 0 then 0 - (nth raw i + 1) else nth raw i) ∧ y = ⟨[(0, (.fp (poolR st pl))), (1, (nums raw)), (5, (nums (allG pl.length (raw.take i)))), (6, (.int .i64 ((i : Int)))), (7, (.int .i64 v))], [], 0⟩) [0, 1, 5, 6, 7] 0 (by omega) ?_ ?_
  ·refine SW_P [] [0, 1, 5, 6, 7, 24] ?_
   refine SW_if (p := (nth raw i) < 0) (by kernel_rfl) (fun c2 => ?_) (fun c2 => ?_)
   ·refine SW_reg ?_
    refine SO_HA (CS := [(1, (-9223372036854775808 ≤ (nth raw i) + 1 ∧ (nth raw i) + 1 ≤ 9223372036854775807)), (2, (-9223372036854775808 ≤ 0 - ((nth raw i) + 1) ∧ 0 - ((nth raw i) + 1) ≤ 9223372036854775807))]) 0 [] [0, 1, 5, 6, 7] [] hk0 v0 (by refine cc _ ?_ <| cc _ ?_ c0 <;> first | omega | (simp; omega) | (simp; done) | (intros; simp_all; omega) | (intros; simp_all; done)) ?_
    refine ⟨by kernel_rfl, (0 - ((nth raw i) + 1)), ?_, (by kernel_rfl)⟩
    rw [if_pos c2]
   ·refine SW_skip ?_
    refine ⟨by kernel_rfl, (nth raw i), ?_, (by kernel_rfl)⟩
    rw [if_neg c2]
  ·rintro y1 ⟨v, jy, rfl⟩
   refine SW_reg ?_
   refine SO_HA 0 [] [0, 1, 5, 6] [] (hk 3 en_34 (rLen_ok st pl) <| hk 5 en_35 (put1_ok (allG pl.length (raw.take i)) (Int.tmod v (pl.length : Int)) (by have := allG_len pl.length (raw.take i); rw [List.length_take] at this; omega)) <| hk0) v0 (cc 4 (p := ((pl.length : Int) ≠ 0)) (by first | omega | (simp; omega) | (simp; done) | (intros; simp_all; omega) | (intros; simp_all; done)) <| c0) ?_
   refine SW_reg ?_
   refine SO_HA 0 [] [0, 1, 5, 6] [] hk0 v0 (cc 1 (p := (-9223372036854775808 ≤ (i : Int) + 1 ∧ (i : Int) + 1 ≤ 9223372036854775807)) (by first | omega | (simp; omega) | (simp; done) | (intros; simp_all; omega) | (intros; simp_all; done)) <| c0) ?_
   refine ⟨by kernel_rfl, _, ?_, i + 1, ?_, ?_, (Eq.trans (b := (⟨[(0, (.fp (poolR st pl))), (1, (nums raw)), (5, (nums (put1 (Int.tmod v (pl.length : Int)) (allG pl.length (raw.take i))))), (6, (.int .i64 ((i : Int) + 1)))], [], 0⟩ : St)) (by kernel_rfl) (by rw [show Int.tmod v (pl.length : Int) = idN pl.length (nth raw i) from by rw [jy]; rfl, ← allG_next (by omega)] <;> kernel_rfl)), rfl⟩
   all_goals omega
 ·subst hb1
  try simp only [Bool.and_eq_true, Bool.or_eq_true, Bool.and_eq_false_iff, Bool.or_eq_false_iff, Bool.not_eq_true', Bool.not_eq_false', decide_eq_true_eq, decide_eq_false_iff_not] at c1
  refine SW_exit ?_
  refine SW_P [] [4] ?_
  refine SW_ret ?_
  refine RK wR [(nums (allG pl.length (raw.take i)))] ?_
  refine Same.of_eq ?_
  simp only [pack]
  unfold allP
  by_cases h0 : pl.length = 0
  ·rw [if_pos h0, f1_2 h0]; rfl
  ·rw [if_neg h0, show i = raw.length from by omega, List.take_length]
end Sv
end Go.Proofs.YtlfjokcbkopfeaaGreatDoor
end
section
namespace Go.Proofs.YtlfjokcbkopfeaaGreatDoor
open Go Go.RowKit
namespace Sv
def PkgsAt (st : PoolT) (pl : List (Int × Int)) : Prop := pl.length = st.all.length ∧ ∀ i, i < st.all.length → 0 ≤ (nth pl i).1 ∧ (nth pl i).1 < st.repos.length ∧ 0 ≤ (nth pl i).2 ∧ (nth pl i).2 < (nth st.repos (nth pl i).1.toNat).pkgs.length ∧
  nth (nth st.repos (nth pl i).1.toNat).pkgs (nth pl i).2.toNat = (nth st.all i).1 ∧ (nth pl i).1 = (nth st.all i).2
def AllIn (l : List RepoT) (st : PoolT) : Prop := ∀ q ∈ st.all, ∃ r ∈ l, q.1 ∈ r.pkgs
theorem nth_app_l {α : Type} [Inhabited α] {l m : List α} {i : Nat} (h : i < l.length) : nth (l ++ m) i = nth l i := by
  simp only [nth]; rw [List.getElem?_append_left h]
theorem nth_app_r {α : Type} [Inhabited α] {l m : List α} {i : Nat} (h : l.length ≤ i) : nth (l ++ m) i = nth m (i - l.length) := by
  simp only [nth]; rw [List.getElem?_append_right h]
theorem bothTo_snoc {k : Int} {l : List RepoT} {r : RepoT} : bothTo k (l ++ [r]) = (addS (bothTo k l).1 r, addA (bothTo k l).2 (bothTo k l).1 r) := by
  unfold bothTo; rw [List.foldl_append]; rfl
theorem snoc_ind {α : Type} {C : List α → Prop} (h0 : C []) (h : ∀ l a, C l → C (l ++ [a])) (l : List α) : C l := by
  rw [← List.reverse_reverse l]
  induction l.reverse with
  | nil => exact h0
  | cons a r ih => rw [List.reverse_cons]; exact h _ _ ih
theorem bothTo_in (k : Int) : ∀ l : List RepoT, AllIn l (bothTo k l).1 := by
  refine snoc_ind (C := fun l => AllIn l (bothTo k l).1) (fun q hq => by cases hq) fun l r ih => ?_
  rw [bothTo_snoc]
  intro q hq
  have old : q ∈ (bothTo k l).1.all → ∃ r' ∈ l ++ [r], q.1 ∈ r'.pkgs := fun h => by
    obtain ⟨r', h1, h2⟩ := ih q h
    exact ⟨r', List.mem_append_left _ h1, h2⟩
  unfold addS at hq
  split at hq
  · simp only [keptsTo, List.take_length] at hq
    rcases List.mem_append.1 hq with h | h
    · exact old h
    · obtain ⟨p, hp, rfl⟩ := List.mem_map.1 h
      exact ⟨r, by simp, hp⟩
  · exact old hq
theorem bothTo_idx {k : Int} {l : List RepoT} (h : ∀ i, i < l.length → (nth l i).size ≤ 4194304) : IdxOk (bothTo k l).1 := by
  refine ⟨(bothTo_ok k l).2.1, fun i hi => ?_⟩
  obtain ⟨r, hr, hp⟩ := bothTo_in k l (nth (bothTo k l).1.all i) (by rw [nth_at hi]; exact List.getElem_mem hi)
  obtain ⟨a, ha, rfl⟩ := List.getElem_of_mem hr
  obtain ⟨b, hb, e⟩ := List.getElem_of_mem hp
  have h1 := RepoT.size_pkg hb
  have h2 := h a ha
  rw [nth_at ha] at h2
  rw [nth_at hb, e] at h1
  omega
theorem bothTo_at (k : Int) : ∀ l : List RepoT, PkgsAt (bothTo k l).1 (bothTo k l).2 := by
  refine snoc_ind (C := fun l => PkgsAt (bothTo k l).1 (bothTo k l).2) ⟨rfl, fun i hi => by simp [bothTo] at hi⟩ fun l r ih => ?_
  rw [bothTo_snoc]
  generalize (bothTo k l).1 = st at ih
  generalize (bothTo k l).2 = pl at ih
  show PkgsAt (addS st r) (addA pl st r)
  by_cases he : addE st r = 0
  · have e1 : addS st r = ⟨st.kind, st.repos ++ [r], keptsTo st r r.pkgs.length⟩ := if_pos he
    have e2 : addA pl st r = atTo pl st r r.pkgs.length := if_pos he
    rw [e1, e2]
    have hl : (keptsTo st r r.pkgs.length).length = st.all.length + r.pkgs.length := by simp [keptsTo]
    have hl2 : (atTo pl st r r.pkgs.length).length = pl.length + r.pkgs.length := by simp [atTo]
    refine ⟨by show (atTo pl st r r.pkgs.length).length = (keptsTo st r r.pkgs.length).length; rw [hl, hl2, ih.1], fun i hi => ?_⟩
    have hi : i < (keptsTo st r r.pkgs.length).length := hi
    rw [hl] at hi
    show 0 ≤ (nth (atTo pl st r r.pkgs.length) i).1 ∧ (nth (atTo pl st r r.pkgs.length) i).1 < ((st.repos ++ [r]).length : Int) ∧ 0 ≤ (nth (atTo pl st r r.pkgs.length) i).2 ∧ (nth (atTo pl st r r.pkgs.length) i).2 < ((nth (st.repos ++ [r]) (nth (atTo pl st r r.pkgs.length) i).1.toNat).pkgs.length : Int) ∧ nth (nth (st.repos ++ [r]) (nth (atTo pl st r r.pkgs.length) i).1.toNat).pkgs (nth (atTo pl st r r.pkgs.length) i).2.toNat = (nth (keptsTo st r r.pkgs.length) i).1 ∧ (nth (atTo pl st r r.pkgs.length) i).1 = (nth (keptsTo st r r.pkgs.length) i).2
    unfold atTo keptsTo
    by_cases h : i < st.all.length
    · have k := ih.2 i h
      rw [nth_app_l (l := pl) (by rw [ih.1]; exact h), nth_app_l (l := st.all) h, nth_app_l (l := st.repos) (by omega)]
      exact ⟨k.1, by rw [List.length_append]; omega, k.2.2.1, k.2.2.2.1, k.2.2.2.2.1, k.2.2.2.2.2⟩
    · obtain ⟨j, rfl⟩ : ∃ j, i = st.all.length + j := ⟨i - st.all.length, by omega⟩
      have hj : j < r.pkgs.length := by omega
      rw [nth_app_r (l := pl) (by rw [ih.1]; omega), nth_app_r (l := st.all) (by omega), show st.all.length + j - pl.length = j by rw [ih.1]; omega, show st.all.length + j - st.all.length = j by omega, List.take_length]
      have a1 : nth ((List.range r.pkgs.length).map fun (k : Nat) => ((st.repos.length : Int), (k : Int))) j = ((st.repos.length : Int), (j : Int)) := by simp [nth, hj]
      have a2 : nth (r.pkgs.map fun p => (p, (st.repos.length : Int))) j = (nth r.pkgs j, (st.repos.length : Int)) := by simp [nth, hj]
      rw [a1, a2]
      have a3 : nth (st.repos ++ [r]) ((st.repos.length : Int)).toNat = r := by rw [nth_app_r (by simp)]; simp [nth]
      refine ⟨Int.natCast_nonneg _, by rw [List.length_append, List.length_singleton]; show (st.repos.length : Int) < _; omega, Int.natCast_nonneg _, ?_, ?_, rfl⟩
      · show (j : Int) < ((nth (st.repos ++ [r]) ((st.repos.length : Int)).toNat).pkgs.length : Int)
        rw [a3]; omega
      · show nth (nth (st.repos ++ [r]) ((st.repos.length : Int)).toNat).pkgs ((j : Int)).toNat = nth r.pkgs j
        rw [a3]; rfl
  · have e1 : addS st r = st := if_neg he
    have e2 : addA pl st r = pl := if_neg he
    rw [e1, e2]; exact ih
end Sv
end Go.Proofs.YtlfjokcbkopfeaaGreatDoor
end
section
namespace Go.Proofs.YtlfjokcbkopfeaaGreatDoor
open Go Go.RowKit
namespace Sv
attribute [local irreducible] SW SO holds
theorem en_37 : Enters Tryz.prog 37 := enters_of Tryz.func37 (by kernel_rfl) rfl
theorem en_8 : Enters Tryz.prog 8 := enters_of Tryz.func8 (by kernel_rfl) rfl
def exLib : DepT := .mk 1 [108, 105, 98] 0 [] []
def exTwo : DepT := .mk 1 [108, 105, 98] 2 [50] []
def exQ : DepT := .mk 1 [108, 105, 98] 6 [49] []
def exA : PkgT := ⟨[97], [49, 45, 49], [110, 111, 97, 114, 99, 104], [], [exTwo], [], [], [], [], [], [], []⟩
def exB : PkgT := ⟨[98], [49, 45, 49], [110, 111, 97, 114, 99, 104], [], [exLib], [], [], [], [], [], [], [[47, 98, 105, 110, 47, 98]]⟩
def exC : PkgT := ⟨[97], [50, 45, 49], [110, 111, 97, 114, 99, 104], [], [], [], [], [], [], [], [], []⟩
def exR : RepoT := ⟨[109, 97, 105, 110], 0, false, [exA, exB, exC]⟩
def exL : List UInt8 := [40, 98, 32, 105, 102, 32, 108, 105, 98, 32, 62, 32, 49, 32, 101, 108, 115, 101, 32, 97, 41]
def exD : DepT := .mk 4 [] 0 [] [.mk 1 [98] 0 [] [], .mk 1 [108, 105, 98] 4 [49] [], .mk 1 [97] 0 [] []]
theorem exD_is : exD = .mk 4 [] 0 [] [.mk 1 [98] 0 [] [], .mk 1 [108, 105, 98] 4 [49] [], .mk 1 [97] 0 [] []] := rfl
def exS : PoolT := (bothTo (kindN 1) [exR]).1
def exP : List (Int × Int) := (bothTo (kindN 1) [exR]).2
theorem exS_ok : IdxOk exS := bothTo_idx fun i hi => by
 have : i = 0 := by simpa using hi
 subst this
 decide
theorem ex_met2 : metR meetsN exS exD [2] = (true, 0) := by kernel_rfl
theorem ex_met0 : metR meetsN exS exD [0] = (false, 0) := by kernel_rfl
theorem ex_who : whoR meetsN exS exQ = ([0], 0) := by kernel_rfl
theorem exPools : FnV Tryz.prog 9 [.int .i64 1, rowOf 4 repoX [exR]] (.tup [.fp (poolX exS), .fp (poolR exS exP)]) := Pools_ok 1 [exR] (by decide) fun i hi => by
 have : i = 0 := by simpa using hi
 subst this
 decide
theorem exParse : FnV Tryz.prog 38 [.str exL] (.tup [depX exD, .int .i64 0]) := ParseL
set_option maxHeartbeats 400000 in
set_option maxRecDepth 100000 in
theorem example_ok  :
  FnV Tryz.prog 37 [] (.agg [(.str exR.name), (.int .i64 exR.prio), (.bool exR.inst), (rowOf 12 pkgX exR.pkgs)]) := by
 refine FnV_intro [.cell 0 41] Tryz.func37 rfl Tryz.ntmps37 rfl rfl (fun B F hF => ?_)
 refine SW_P [] [0] ?_
 refine SW_H [] [0, 1] [] hk0 (vk 2 5 (a := (.agg [(.int .i64 1), (.str ([108, 105, 98])), (.int .i64 0), (.str []), .nils])) (b := (.agg [(.int .i64 exLib.kind), (.str exLib.name), (.int .i64 exLib.op), (.str exLib.evr), (.row 5 exLib.args.length (depAt exLib.args))])) ((Imp.aggs (ImpL.cons Imp.refl (ImpL.cons Imp.refl (ImpL.cons Imp.refl (ImpL.cons Imp.refl (ImpL.cons (Imp.nil.trans (deps_to [])) ImpL.nil))))))) <| v0) c0 ?_
 refine SW_H [] [0, 1, 2] [(0, 1)] hk0 (vk 2 6 (a := (.agg [(.int .i64 1), (.str ([108, 105, 98])), (.int .i64 2), (.str ([50])), .nils])) (b := (.agg [(.int .i64 exTwo.kind), (.str exTwo.name), (.int .i64 exTwo.op), (.str exTwo.evr), (.row 5 exTwo.args.length (depAt exTwo.args))])) ((Imp.aggs (ImpL.cons Imp.refl (ImpL.cons Imp.refl (ImpL.cons Imp.refl (ImpL.cons Imp.refl (ImpL.cons (Imp.nil.trans (deps_to [])) ImpL.nil))))))) <| v0) c0 ?_
 refine SW_H [] [0, 1, 3] [(0, 2), (2, 8)] hk0 (vk 2 8 (b := (rowOf 5 depX [exTwo])) (Imp.list (f := depX) rfl) <| vk 4 9 (a := (.agg [(.str ([97])), (.str ([49, 45, 49])), (.str ([110, 111, 97, 114, 99, 104])), (.str []), (rowOf 5 depX [exTwo]), .nils, .nils, .nils, .nils, .nils, .nils, .nils])) (b := (pkgX exA)) ((Imp.aggs (ImpL.cons Imp.refl (ImpL.cons Imp.refl (ImpL.cons Imp.refl (ImpL.cons Imp.refl (ImpL.cons Imp.refl (ImpL.cons Imp.nil (ImpL.cons Imp.nil (ImpL.cons Imp.nil (ImpL.cons Imp.nil (ImpL.cons Imp.nil (ImpL.cons Imp.nil (ImpL.cons Imp.nil ImpL.nil)))))))))))))) <| v0) c0 ?_
 refine SW_H [] [0, 3, 4] [(0, 3), (3, 11), (3, 12)] hk0 (vk 3 11 (b := (rowOf 5 depX [exLib])) (Imp.list (f := depX) rfl) <| vk 3 12 (b := (strs ([[47, 98, 105, 110, 47, 98]]))) (Imp.list (f := AV.str) rfl) <| vk 5 13 (a := (.agg [(.str ([98])), (.str ([49, 45, 49])), (.str ([110, 111, 97, 114, 99, 104])), (.str []), (rowOf 5 depX [exLib]), .nils, .nils, .nils, .nils, .nils, .nils, (strs ([[47, 98, 105, 110, 47, 98]]))])) (b := (pkgX exB)) ((Imp.aggs (ImpL.cons Imp.refl (ImpL.cons Imp.refl (ImpL.cons Imp.refl (ImpL.cons Imp.refl (ImpL.cons Imp.refl (ImpL.cons Imp.nil (ImpL.cons Imp.nil (ImpL.cons Imp.nil (ImpL.cons Imp.nil (ImpL.cons Imp.nil (ImpL.cons Imp.nil (ImpL.cons Imp.refl ImpL.nil)))))))))))))) <| v0) c0 ?_
 refine SW_H [] [0] [(0, 4), (4, 17)] hk0 (vk 3 16 (a := (.agg [(.str ([97])), (.str ([50, 45, 49])), (.str ([110, 111, 97, 114, 99, 104])), (.str []), .nils, .nils, .nils, .nils, .nils, .nils, .nils, .nils])) (b := (pkgX exC)) ((Imp.aggs (ImpL.cons Imp.refl (ImpL.cons Imp.refl (ImpL.cons Imp.refl (ImpL.cons Imp.refl (ImpL.cons Imp.nil (ImpL.cons Imp.nil (ImpL.cons Imp.nil (ImpL.cons Imp.nil (ImpL.cons Imp.nil (ImpL.cons Imp.nil (ImpL.cons Imp.nil (ImpL.cons Imp.nil ImpL.nil)))))))))))))) <| vk 4 17 (b := (rowOf 12 pkgX [exA, exB, exC])) (Imp.list (f := pkgX) rfl) <| v0) c0 ?_
 refine SW_ret ?_
 refine RK wR [(.agg [(.str ([109, 97, 105, 110])), (.int .i64 0), (.bool false), (rowOf 12 pkgX [exA, exB, exC])])] ?_
 exact Same.of_eq (by first | rfl | (simp only [pack]; simp_all))
set_option maxHeartbeats 400000 in
set_option maxRecDepth 100000 in
theorem awake7_ok  :
  FnV Tryz.prog 8 [] (.bool true) := by
 refine FnV_intro [.tmp 0] Tryz.func8 rfl Tryz.ntmps8 rfl rfl (fun B F hF => ?_)
 refine SW_P [] [] ?_
 refine SW_H [] [1] [(2, 14)] (hk 0 en_37 example_ok <| hk 2 en_9 exPools <| hk0) (vk 2 14 (b := (rowOf 4 repoX [exR])) (Imp.list (f := repoX) rfl) <| v0) c0 ?_
 refine SW_H [] [1, 3] [] (hk 1 en_10 (provNew_ok exS exS_ok.1 exS_ok.2) <| hk0) v0 c0 ?_
 refine SW_seq ?_
 refine SW_P [] [3, 25] ?_
 refine SW_false (by kernel_rfl) ?_
 refine SW_skip ?_
 refine SW_H [] [3, 4, 5] [(6, 4)] (hk 0 en_38 exParse <| hk0) v0 c0 ?_
 refine SW_H [] [3, 4, 5, 6, 7] [(3, 33)] (hk 3 en_15 ((Met_ok meetsN meets_all exS exS_ok exD [2] (by rw [exD_is]; decide) (by decide)).to (Same.of_eq (by rw [ex_met2]))) <| hk0) (vk 3 33 (b := (nums [2])) (Imp.list (f := AV.int .i64) rfl) <| v0) c0 ?_
 refine SW_H [] [3, 5, 6, 7, 8, 9] [(3, 40)] (hk 3 en_15 ((Met_ok meetsN meets_all exS exS_ok exD [0] (by rw [exD_is]; decide) (by decide)).to (Same.of_eq (by rw [ex_met0]))) <| hk0) (vk 3 40 (b := (nums [0])) (Imp.list (f := AV.int .i64) rfl) <| v0) c0 ?_
 refine SW_H [] [5, 6, 7, 8, 9, 10, 11] [] (hk 2 en_13 ((Who_ok meetsN meets_all exS exS_ok exQ (by decide)).to (Same.of_eq (by rw [ex_who]))) <| hk0) (vk 2 46 (a := (.agg [(.int .i64 1), (.str ([108, 105, 98])), (.int .i64 6), (.str ([49])), .nils])) (b := (.agg [(.int .i64 exQ.kind), (.str exQ.name), (.int .i64 exQ.op), (.str exQ.evr), (.row 5 exQ.args.length (depAt exQ.args))])) ((Imp.aggs (ImpL.cons Imp.refl (ImpL.cons Imp.refl (ImpL.cons Imp.refl (ImpL.cons Imp.refl (ImpL.cons (Imp.nil.trans (deps_to [])) ImpL.nil))))))) <| v0) c0 ?_
 obtain ⟨b1, hb1⟩ : ∃ b, b = (decide (([0].length : Int) = 1)) := ⟨_, rfl⟩
 obtain ⟨b2, hb2⟩ : ∃ b, b = (b1 && (decide ((nth [0] 0) = 0))) := ⟨_, rfl⟩
 refine SW_H (CS := [(24, (b1 = true → (b1 = true) ∧ (0 ≤ (0 : Int) ∧ 0 < [0].length))), (25, (b1 = true → b1 = true)), (26, (b1 = true → b1 = true)), (27, (b1 = true → b1 = true)), (30, (b2 = true → b2 = true)), (31, (b2 = true → b2 = true))]) [73, 74, 75, 76, 79, 80] [0] [] hk0 (vk 23 72 (a := .bool (decide (([0].length : Int) = 1))) (b := .bool b1) (Imp.of_eq (by rw [hb1])) <| vk 29 78 (a := .bool (b1 && (decide ((nth [0] 0) = 0)))) (b := .bool b2) (Imp.of_eq (by rw [hb2])) <| v0) (by refine cc _ ?_ <| cc _ ?_ <| cc _ ?_ <| cc _ ?_ <| cc _ ?_ <| cc _ ?_ c0 <;> first | omega | (simp; omega) | (simp; done) | (intros; simp_all; omega) | (intros; simp_all; done)) ?_
 refine SW_ret ?_
 refine RK wR [(.bool (b2 && true))] ?_
 subst hb2 hb1
 exact Same.of_eq (by first | rfl | (simp only [pack]; simp_all))
end Sv
end Go.Proofs.YtlfjokcbkopfeaaGreatDoor
end
section
namespace Go.Proofs.YtlfjokcbkopfeaaGreatDoor
open Go Go.RowKit
namespace Sv
abbrev MeetF := Int → Int → List UInt8 → Int → List UInt8 → Bool × Int
theorem any_congr' {α : Type} {f g : α → Bool} : ∀ {l : List α}, (∀ a ∈ l, f a = g a) → l.any f = l.any g
  | [], _ => rfl
  | a :: l, h => by rw [List.any_cons, List.any_cons, h a (by simp), any_congr' fun b hb => h b (by simp [hb])]
theorem form_argI {k : Int} : ∀ {l : List DepT} {i : Nat}, argsForm k l = true → i < l.length → formB (nth l i) = true
  | [], i, _, hi => by simp at hi
  | d :: r, i, h, hi => by
    unfold argsForm at h
    simp only [Bool.and_eq_true] at h
    cases i with
    | zero => exact h.2.1
    | succ i => exact form_argI (l := r) h.2.2 (by simpa using hi)
theorem form_mk {k op : Int} {nm ev : List UInt8} {args : List DepT} (h : formB (.mk k nm op ev args) = true) (hk : ¬ k = 1) : 2 ≤ args.length ∧ argsForm k args = true ∧ 2 ≤ k ∧ k ≤ 6 := by
  unfold formB at h
  rw [if_neg hk] at h
  simp only [Bool.and_eq_true, Bool.not_eq_true', formBad, decide_eq_false_iff_not, not_or] at h
  exact ⟨by omega, h.2, by omega, by omega⟩
theorem form_one {op : Int} {nm ev : List UInt8} {args : List DepT} (h : formB (.mk 1 nm op ev args) = true) : args = [] := by
  unfold formB at h
  rw [if_pos rfl] at h
  by_cases q : nameB nm = true ∧ 0 ≤ op ∧ op ≤ 7 ∧ args.length = 0
  · exact List.length_eq_zero_iff.1 q.2.2.2
  · rw [fn_no q] at h; cases h
theorem form_nth {d : DepT} (h : formB d = true) {i : Nat} (hi : i < d.args.length) : formB (nth d.args i) = true := by
  obtain ⟨k, nm, op, ev, args⟩ := d
  by_cases hk : k = 1
  · subst hk
    have e := form_one h
    have hi : i < args.length := hi
    rw [e] at hi; simp at hi
  · exact form_argI (form_mk h hk).2.1 hi
theorem form_len {d : DepT} (h : formB d = true) (hk : ¬ d.kind = 1) : 2 ≤ d.args.length := by
  obtain ⟨k, nm, op, ev, args⟩ := d
  exact (form_mk h hk).1
theorem mem_nth {α : Type} [Inhabited α] {l : List α} {a : α} (h : a ∈ l) : ∃ i, i < l.length ∧ nth l i = a := by
  obtain ⟨i, hi, rfl⟩ := List.getElem_of_mem h
  exact ⟨i, hi, nth_at hi⟩
section
variable {m : MeetF} {st : PoolT} {s : List Int}
theorem aloneB_step {n n' : Nat} {d : DepT} {id : Int} (h : formB d = true) (k : ∀ i, i < d.args.length → aloneB m st n (nth d.args i) id = aloneB m st n' (nth d.args i) id) : aloneB m st (n + 1) d id = aloneB m st (n' + 1) d id := by
  unfold aloneB
  by_cases h1 : d.kind = 1
  · rw [if_pos h1, if_pos h1]
  · have h2 := form_len h h1
    rw [if_neg h1, if_neg h1, k 0 (by omega), k 1 (by omega)]
    rw [any_congr' (f := fun a => !aloneB m st n a id) (g := fun a => !aloneB m st n' a id) fun a ha => by
      obtain ⟨i, hi, rfl⟩ := mem_nth ha
      rw [k i hi]]
theorem aloneB_fuel {id : Int} : ∀ (n : Nat) (d : DepT), formB d = true → d.size ≤ n → aloneB m st n d id = aloneB m st d.size d id := by
  intro n
  induction n using Nat.strongRecOn with
  | ind n ih =>
    intro d hf hd
    have hs := size_args d
    obtain ⟨q, hq⟩ : ∃ q, d.size = q + 1 := ⟨d.size - 1, by omega⟩
    obtain ⟨p, rfl⟩ : ∃ p, n = p + 1 := ⟨n - 1, by omega⟩
    rw [hq]
    refine aloneB_step hf fun i hi => ?_
    have h1 := size_nth hi
    have hg := form_nth hf hi
    by_cases e : p = q
    · rw [e]
    · rw [ih p (by omega) _ hg (by omega), ih q (by omega) _ hg (by omega)]
theorem metR_ok {d : DepT} (h : checkE d = 0) (hs : ∀ x ∈ s, 0 ≤ x ∧ x < st.all.length) : metR m st d s = (metB m st s d.size d, 0) := by
  have : (s.any fun id => decide (id < 0) || decide ((st.all.length : Int) ≤ id)) = false := by
    rw [List.any_eq_false]
    intro x hx
    have := hs x hx
    simp only [Bool.or_eq_true, decide_eq_true_eq]; omega
  unfold metR
  rw [if_pos h, this]
  rfl
end
theorem check_of {d : DepT} (h1 : formB d = true) (h2 : partsN d ≤ 16) : checkE d = 0 := by unfold checkE; rw [h1, if_pos rfl, if_neg (by omega)]
theorem check_parts {d : DepT} (h : checkE d = 0) : partsN d ≤ 16 := by
  unfold checkE at h
  cases hq : formB d with
  | true =>
    rw [hq, if_pos rfl] at h
    split at h
    · cases h
    · omega
  | false => rw [hq] at h; simp at h
section
variable {m : MeetF} {st : PoolT} {s : List Int}
theorem size3 {k : Int} {a b c : DepT} : (DepT.mk k [] 0 [] [a, b, c]).size = a.size + b.size + c.size + 1 := by simp only [DepT.size, argsSize, List.length_nil]; omega
theorem size2 {k : Int} {a b : DepT} : (DepT.mk k [] 0 [] [a, b]).size = a.size + b.size + 1 := by simp only [DepT.size, argsSize, List.length_nil]; omega
end
end Sv
end Go.Proofs.YtlfjokcbkopfeaaGreatDoor
end
section
namespace Go.Proofs.YtlfjokcbkopfeaaGreatDoor
open Go Go.RowKit
set_option linter.unusedSimpArgs false
set_option linter.unusedVariables false
namespace Sv
def sortZ (l : List Int) : List Int := l.mergeSort fun x y => decide (x ≤ y)
theorem sort_nil : FnV Tryz.prog 126 [.nils] (.tup []) := by
  intro F w vs hF hv
  obtain ⟨v, rfl, h1⟩ := hv.single_inv
  simp only [VR] at h1; subst h1
  refine (Go.Proofs.Any.slices_Sort_int_none Tryz.lays189 none 0 w).mono ?_
  rintro e w' ⟨he, rfl⟩
  exact ⟨_, he, Below.refl _ _, F, fun _ _ e => e, hF, fun _ _ e => .inl e, by simp only [VR]; exact ⟨[], .nil, rfl⟩⟩
theorem compact_nil : FnV Tryz.prog 118 [.nils] .nils := by
  intro F w vs hF hv
  obtain ⟨v, rfl, h1⟩ := hv.single_inv
  simp only [VR] at h1; subst h1
  refine (Tryz.slices_Compact_int_empty none 0 w).mono ?_
  rintro e w' ⟨he, rfl⟩
  exact ⟨_, he, Below.refl _ _, F, fun _ _ e => e, hF, fun _ _ e => .inl e, by simp only [VR]⟩
def setZ (l : List Int) : List Int := Lib.compact (sortZ l)
theorem sortZ_len (l : List Int) : (sortZ l).length = l.length := by simp [sortZ]
theorem setZ_len (l : List Int) : (setZ l).length ≤ l.length := by have := compactI_le (sortZ l); rw [sortZ_len] at this; exact this
def KeepG (P : Program) (f : Nat) (es es' : List AV) (e sz : Nat) : Prop := ∀ (B : Bas) (φ : Phi) (h : AH) (w : World) (b : Nat) (v : Value), Rel B φ h w → getH b h = some (.grow es e sz) → φ.s b = some v →
  Calls P f #[v] w (Ret fun u w' => u = .tuple #[] ∧ Rel B φ (setH b (.grow es' e sz) (scrubH b h)) w')
theorem SO_keep {P : Program} {B : Bas} {F : Cx} {n : Nat} {K : Exit → St → Prop} {x : St} {ops : Array Oper} {rest : List Oper} {f : FuncId} {ar : Array Operand} {ts : Array TypeId} {ty : TypeId} {ps : String} {dst : Option Tmp} {s' : Fr} {af : Array Edge} {g : Option (Nat × Bool)} {b e sz : Nat} {es es' : List AV}
    (hg : guardS ops x.s g = true) (he : Enters P f) (ha : evsA (evA x.s) ar.toList = some [.own b]) (hb : getH b x.h = some (.grow es e sz)) (hf : KeepG P f es es' e sz)
    (hp : putF n dst (.tup []) x.s = some s') (next : SO P n ops rest B F K ⟨s', setH b (.grow es' e sz) (scrubH b x.h), x.nx⟩) : SO P n ops (⟨dst, .call { callee := .value (.func f), args := ar, argTypes := ts }, ty, ps, af, g⟩ :: rest) B F K x := by
  intro φ σ w hx
  have hv := evsA_ok hx.fr.ev ha
  obtain ⟨v, hv0, hv1⟩ := hv.single_inv
  simp only [VR] at hv1
  have hc := hf B φ x.h w b v hx.rel hb hv1.1
  refine WO_call (guardS_ok hx.fr hg) he (by rw [hv0]; exact hc) ?_
  rintro u w' ⟨rfl, hr⟩
  exact next φ _ w' ⟨hx.fr.put hp (by simp only [VR]; exact ⟨[], .nil, rfl⟩), hr, hx.dom, hx.old, hx.new, hx.base⟩
theorem sortI_keep (l : List Int) (hl : l.length ≤ 4611686018427) : KeepG Tryz.prog 126 (l.map (AV.int .i64)) ((sortZ l).map (AV.int .i64)) 3 1 := by
  intro B φ h w b v hr hb hv1
  have hob := hr.obj b _ hb
  obtain ⟨v0, us, q1, q2, q3, q4⟩ := hob
  rw [hv1] at q1; cases q1
  have hu := ints_vals q3
  subst hu
  rw [flat_ints, List.length_map] at q2
  have ht : Turn φ φ b := ⟨fun _ => rfl, fun _ _ => rfl, fun _ _ e => e⟩
  rcases q2.2 with ⟨rfl, hn⟩ | ⟨g, cap, cur, rfl, hg1, hg2, hg3, hg4, hg5, hg6⟩
  · have hl0 : l = [] := List.length_eq_zero_iff.1 hn
    subst hl0
    refine (Go.Proofs.Any.slices_Sort_int_none Tryz.lays189 none 0 w).mono ?_
    rintro e w' ⟨he, rfl⟩
    exact ⟨_, he, rfl, Rel.grown hr hb hv1 ht hv1 rfl ⟨rfl, rfl, rfl, Nat.le_refl _, fun _ _ _ => rfl⟩ (.inl rfl) (fun k hk => by cases hk) (by have := hr.obj b _ hb; simpa [sortZ] using this)⟩
  · have hh : Go.Sort.Holds (Value.int .i64) w g 0 l.toArray := holds_of_blockI hg2 (by simpa using hg6)
    refine (Tryz.slices_Sort_int g 0 cap l w hh (block_lt hg2) (by omega)).mono ?_
    rintro e w' ⟨he, n, os, rfl⟩
    have hgr := grownBy_sortedI (w := w) (g := g) (n := n) (os := os) (sortZ l).toArray
    exact ⟨_, he, rfl, Rel.grown (es' := (sortZ l).map (AV.int .i64)) hr hb hv1 ht hv1 rfl hgr (.inl rfl) (fun k hk => by cases hk; exact Nat.lt_of_lt_of_le (block_lt hg2) hgr.size)
      ⟨_, (sortZ l).map (Value.int .i64), hv1, by
        rw [flat_ints, List.length_map]
        have := ownsRow_sortedI (n := n) (os := os) (base := 0) (ts := sortZ l) (ss := l) (by simp [sortZ]) hg1 hg2 hg3 hg4 (by simpa using hg5)
        rw [show (sortZ l).length = l.length by simp [sortZ]]
        exact this, vals_ints _, cells_ints _⟩⟩
end Sv
end Go.Proofs.YtlfjokcbkopfeaaGreatDoor
end
section
namespace Go.Proofs.YtlfjokcbkopfeaaGreatDoor
open Go Go.RowKit
namespace Sv
attribute [local irreducible] SW SO holds
theorem en_125 : Enters Tryz.prog 125 := enters_of Tryz.func125 (by kernel_rfl) rfl
theorem en_126 : Enters Tryz.prog 126 := enters_of Tryz.func126 (by kernel_rfl) rfl
set_option maxHeartbeats 400000 in
set_option maxRecDepth 100000 in
theorem idsSort_ok (l : List Int) (hl : l.length ≤ 4611686018) :
    FnV Tryz.prog 72 [(nums l)] (nums (setZ l)) := by
  refine FnV_intro [.tmp 2] Tryz.func72 rfl Tryz.ntmps72 rfl rfl (fun B F hF => ?_)
  refine SW_P [] [0] ?_
  refine SW_seq ?_
  refine SW_reg ?_
  refine SO_H 1 0 [] [4] [] hk0 v0 c0 ?_
  refine SO_inl [.tmp 2] (al := [(nums l)]) (s0 := [(4, (nums l))]) (by kernel_rfl) (by exact en_125) (by kernel_rfl) Tryz.func125 rfl Tryz.ntmps125 rfl (by kernel_rfl) (by kernel_rfl) (fun F1 hF1 hle1 => ?_)
  refine SW_P [] [0] ?_
  refine SW_seq ?_
  refine SW_seq ?_
  refine SW_reg ?_
  refine SO_H 1 0 [] [0, 3] [] hk0 v0 c0 ?_
  refine SO_nilrow (G := rowG (nums l)) (sz := 1) (m := l.length) (e := 3) (by kernel_rfl) (by kernel_rfl) (by kernel_rfl) (by kernel_rfl) (fun nq1_1 => ⟨[(0, (nums l)), (3, (nums l)), (4, (.bool (nq1_1)))], by kernel_rfl, fun hnq1_1 => ?_⟩)
  refine SO_nil ?_
  refine SW_cond (q := nq1_1) (by kernel_rfl) (fun c1 => ?_) (fun c1 => ?_)
  · try simp only [Bool.and_eq_true, Bool.or_eq_true, Bool.and_eq_false_iff, Bool.or_eq_false_iff, Bool.not_eq_true', Bool.not_eq_false', decide_eq_true_eq, decide_eq_false_iff_not] at c1
    refine SW_P [] [2] ?_
    refine SW_ret ?_
    refine inlK_mk (.inl rfl) (al := [.nils]) (s' := [(4, (nums l)), (5, .nils)]) (by kernel_rfl) (by kernel_rfl) ?_
    refine SO_HA 2 [] [3] [] hk0 v0 c0 ?_
    refine SW_H [] [3] [] (hk 1 en_126 (sort_nil) <| hk0) v0 c0 ?_
    refine SW_H [] [2] [] (hk 1 en_118 (compact_nil) <| hk0) v0 c0 ?_
    refine SW_ret ?_
    refine RK wR [.nils] ?_
    simp only [pack]
    have h0 : l = [] := List.length_eq_zero_iff.1 (by have := hnq1_1 (by simp_all); simp_all)
    subst h0
    rw [show setZ [] = [] from List.length_eq_zero_iff.1 (Nat.le_zero.1 (setZ_len []))]
    exact (Imp.nil (f := AV.int .i64)).same
  · try simp only [Bool.and_eq_true, Bool.or_eq_true, Bool.and_eq_false_iff, Bool.or_eq_false_iff, Bool.not_eq_true', Bool.not_eq_false', decide_eq_true_eq, decide_eq_false_iff_not] at c1
    refine SW_skip ?_
    refine SW_H [] [2] [] hk0 v0 (cc 2 (p := ((([] : List AV).length + l.length) * 8 ≤ 140737488355328)) (by first | omega | (simp; omega) | (simp; done) | (intros; simp_all; omega) | (intros; simp_all; done)) <| c0) ?_
    refine SW_ret ?_
    refine inlK_mk (.inl rfl) (al := [(.own 1)]) (s' := [(4, (nums l)), (5, (.own 1))]) (by kernel_rfl) (by kernel_rfl) ?_
    refine SO_HA 2 [] [3] [] hk0 v0 c0 ?_
    refine SW_seq ?_
    refine SW_reg ?_
    refine SO_H 1 0 [] [3, 6] [] hk0 v0 c0 ?_
    refine SO_keep (s' := [(3, (.own 1)), (6, (.own 1)), (7, (.tup []))]) (b := 1) (e := 3) (sz := 1) (es := ([] : List AV) ++ ((List.range l.length).map (fun kx => ((.int .i64 (nth l kx)) : AV)))) (es' := ((sortZ l).map (AV.int .i64))) (by kernel_rfl) (by exact en_126) (by kernel_rfl) (by kernel_rfl) ((show KeepG _ _ (([] : List AV) ++ ((List.range l.length).map (fun kx => ((.int .i64 (nth l kx)) : AV)))) _ _ _ from (show l.map (AV.int .i64) = (([] : List AV) ++ ((List.range l.length).map (fun kx => ((.int .i64 (nth l kx)) : AV)))) from by simp [range_all]) ▸ sortI_keep l (by omega))) (by kernel_rfl) ?_
    refine SO_nil ?_
    refine SW_seq ?_
    refine SW_reg ?_
    refine SO_H 1 0 [] [8] [] hk0 v0 c0 ?_
    refine SO_callS [1] (al := [(.own 1)]) (al' := [(.own 0)]) (r := (.own 0)) (r' := (.own 1)) (s' := [(8, junk), (9, (.own 1))]) (H := [(0, (.grow ((sortZ l).map (AV.int .i64)) 3 1))]) (H' := [(0, (.grow ((Lib.compact (sortZ l)).map (AV.int .i64)) 3 1))]) (h2 := [(1, (.grow ((Lib.compact (sortZ l)).map (AV.int .i64)) 3 1))]) (by kernel_rfl) (by exact en_118) (by kernel_rfl) (by kernel_rfl) (by kernel_rfl) (by kernel_rfl) (by kernel_rfl) (compactI_any (sortZ l) (by rw [sortZ_len]; omega)) (by kernel_rfl) (by kernel_rfl) (by kernel_rfl) ?_
    refine SO_HA 2 [] [2] [] hk0 v0 c0 ?_
    refine SW_ret ?_
    refine RK wR [(.row 1 ((Lib.compact (sortZ l)).map (AV.int .i64)).length (fun ix => ((Lib.compact (sortZ l)).map (AV.int .i64)).getD ix junk))] ?_
    simp only [pack]
    exact Same.grown (f := AV.int .i64) (l := setZ l) rfl
end Sv
end Go.Proofs.YtlfjokcbkopfeaaGreatDoor
end
section
namespace Go.Proofs.YtlfjokcbkopfeaaGreatDoor
open Go Go.RowKit
namespace Sv
theorem rise_ext : ∀ {a b : List Int}, RiseI a → RiseI b → (∀ x, x ∈ a ↔ x ∈ b) → a = b
  | [], [], _, _, _ => rfl
  | [], y :: b, _, _, h => by have := (h y).2 (by simp); cases this
  | x :: a, [], _, _, h => by have := (h x).1 (by simp); cases this
  | x :: a, y :: b, ha, hb, h => by
    have e : x = y := by
      rcases List.mem_cons.1 ((h x).1 (by simp)) with e | e
      · exact e
      · rcases List.mem_cons.1 ((h y).2 (by simp)) with e' | e'
        · exact e'.symm
        · have h1 := hb.1 x e
          have h2 := ha.1 y e'
          omega
    subst e
    rw [rise_ext ha.2 hb.2 fun z => ?_]
    constructor
    · intro hz
      rcases List.mem_cons.1 ((h z).1 (by simp [hz])) with e | e
      · subst e; have := ha.1 z hz; omega
      · exact e
    · intro hz
      rcases List.mem_cons.1 ((h z).2 (by simp [hz])) with e | e
      · subst e; have := hb.1 z hz; omega
      · exact e
theorem rise_snoc {x : Int} : ∀ {l : List Int}, RiseI l → (∀ y ∈ l, y < x) → RiseI (l ++ [x])
  | [], _, _ => ⟨by simp, trivial⟩
  | z :: l, h, k => ⟨fun y hy => by
      rcases List.mem_append.1 hy with hy | hy
      · exact h.1 y hy
      · rw [List.mem_singleton] at hy; subst hy; exact k z (by simp), rise_snoc h.2 fun y hy => k y (by simp [hy])⟩
theorem compactUpTo_spec (d : Array Int) (h : ∀ i, i + 1 < d.size → d[i]! ≤ d[i + 1]!) : ∀ m, m ≤ d.size → RiseI (Lib.compactUpTo d m) ∧ (∀ x, x ∈ Lib.compactUpTo d m ↔ ∃ i, i < m ∧ x = d[i]!) ∧ ∀ x ∈ Lib.compactUpTo d m, x ≤ d[m - 1]! := by
  intro m
  induction m with
  | zero => intro _; exact ⟨trivial, fun x => by simp [Lib.compactUpTo], fun x hx => by simp [Lib.compactUpTo] at hx⟩
  | succ m ih =>
    intro hm
    obtain ⟨i1, i2, i3⟩ := ih (by omega)
    have mono : ∀ x ∈ Lib.compactUpTo d m, x ≤ d[m]! := fun x hx => by
      have h1 := i3 x hx
      by_cases h0 : m = 0
      · subst h0; simp [Lib.compactUpTo] at hx
      · have := h (m - 1) (by omega)
        rw [show m - 1 + 1 = m by omega] at this; omega
    rw [Lib.compactUpTo_succ]
    by_cases hk : Lib.keeps d m = true
    · rw [if_pos hk]
      refine ⟨rise_snoc i1 fun y hy => ?_, fun x => ?_, fun x hx => ?_⟩
      · have h1 := mono y hy
        have h2 := i3 y hy
        by_cases h0 : m = 0
        · subst h0; simp [Lib.compactUpTo] at hy
        · have h3 := h (m - 1) (by omega)
          rw [show m - 1 + 1 = m by omega] at h3
          have h4 : d[m]! ≠ d[m - 1]! := by
            simp only [Lib.keeps, decide_eq_true_eq] at hk
            rcases hk with hk | hk
            · exact absurd hk h0
            · exact hk
          omega
      · rw [List.mem_append, i2, List.mem_singleton]
        constructor
        · rintro (⟨i, hi, rfl⟩ | rfl)
          · exact ⟨i, by omega, rfl⟩
          · exact ⟨m, by omega, rfl⟩
        · rintro ⟨i, hi, rfl⟩
          by_cases e : i = m
          · subst e; exact .inr rfl
          · exact .inl ⟨i, by omega, rfl⟩
      · rw [Nat.add_sub_cancel]
        rcases List.mem_append.1 hx with hx | hx
        · exact mono x hx
        · rw [List.mem_singleton] at hx; subst hx; exact Int.le_refl _
    · rw [if_neg hk, List.append_nil]
      have hk' : ¬ m = 0 ∧ d[m]! = d[m - 1]! := by
        simp only [Lib.keeps, decide_eq_true_eq, not_or, ne_eq, Decidable.not_not] at hk
        exact hk
      refine ⟨i1, fun x => ?_, fun x hx => ?_⟩
      · rw [i2]
        constructor
        · rintro ⟨i, hi, rfl⟩
          exact ⟨i, by omega, rfl⟩
        · rintro ⟨i, hi, rfl⟩
          by_cases e : i = m
          · subst e; exact ⟨i - 1, by omega, hk'.2⟩
          · exact ⟨i, by omega, rfl⟩
      · rw [Nat.add_sub_cancel]; exact mono x hx
theorem sortZ_step (l : List Int) (i : Nat) (h : i + 1 < (sortZ l).toArray.size) : (sortZ l).toArray[i]! ≤ (sortZ l).toArray[i + 1]! := by
  have p : (sortZ l).Pairwise fun x y => decide (x ≤ y) = true := List.pairwise_mergeSort (fun a b c h1 h2 => by simp only [decide_eq_true_eq] at *; omega) (fun a b => by simp only [Bool.or_eq_true, decide_eq_true_eq]; omega) l
  have h' : i + 1 < (sortZ l).length := by simpa using h
  have := List.pairwise_iff_getElem.1 p i (i + 1) (by omega) h' (by omega)
  simpa [getElem!_pos, h', show i < (sortZ l).length by omega] using this
theorem setZ_rise (l : List Int) : RiseI (setZ l) := (compactUpTo_spec (sortZ l).toArray (sortZ_step l) (sortZ l).length (by simp)).1
theorem setZ_mem {l : List Int} {x : Int} : x ∈ setZ l ↔ x ∈ l := by
  have h := (compactUpTo_spec (sortZ l).toArray (sortZ_step l) (sortZ l).length (by simp)).2.1 x
  have e : x ∈ setZ l ↔ x ∈ Lib.compactUpTo (sortZ l).toArray (sortZ l).length := Iff.rfl
  rw [e, h]
  have m : x ∈ sortZ l ↔ x ∈ l := by unfold sortZ; exact List.mem_mergeSort
  rw [← m]
  constructor
  · rintro ⟨i, hi, rfl⟩
    simp [getElem!_pos, hi]
  · intro hx
    obtain ⟨i, hi, rfl⟩ := List.getElem_of_mem hx
    exact ⟨i, hi, by simp [getElem!_pos, hi]⟩
theorem setZ_of {l k : List Int} (hk : RiseI k) (h : ∀ x, x ∈ k ↔ x ∈ l) : k = setZ l := rise_ext hk (setZ_rise l) fun x => by rw [h, setZ_mem]
def firstB (x y : List Int) : Bool := decide (y = []) || (!decide (x = []) && decide (nth x 0 ≤ nth y 0))
def mergeZ (p : Bool → Bool → Bool) : Nat → List Int → List Int → List Int
  | 0, _, _ => []
  | n + 1, x, y => if x = [] ∧ y = [] then [] else
    (if p (firstB x y) (firstB y x) then [if firstB y x = true then nth y 0 else nth x 0] else []) ++ mergeZ p n (if firstB x y = true then x.drop 1 else x) (if firstB y x = true then y.drop 1 else y)
theorem merge_rise {q : Bool} {h : Int} {r : List Int} (hr : RiseI r) (hl : ∀ z ∈ r, h < z) : RiseI ((if q = true then [h] else []) ++ r) := by
  cases q
  · exact hr
  · exact ⟨hl, hr⟩
theorem merge_mem {p : Bool → Bool → Bool} {u v : Bool} {h : Int} {x y x1 y1 r : List Int} (hx : ∀ z, z ∈ x ↔ (u = true ∧ z = h) ∨ z ∈ x1) (hy : ∀ z, z ∈ y ↔ (v = true ∧ z = h) ∨ z ∈ y1) (h1 : ∀ z ∈ x1, h < z) (h2 : ∀ z ∈ y1, h < z) (huv : u = true ∨ v = true)
    (hr : ∀ z, z ∈ r ↔ (z ∈ x1 ∨ z ∈ y1) ∧ p (decide (z ∈ x1)) (decide (z ∈ y1)) = true) (z : Int) : z ∈ (if p u v = true then [h] else []) ++ r ↔ (z ∈ x ∨ z ∈ y) ∧ p (decide (z ∈ x)) (decide (z ∈ y)) = true := by
  rw [List.mem_append, hr]
  by_cases e : z = h
  · subst e
    have n1 : ¬ z ∈ x1 := fun q => by have := h1 z q; omega
    have n2 : ¬ z ∈ y1 := fun q => by have := h2 z q; omega
    have e1 : decide (z ∈ x) = u := by have := hx z; cases u <;> simp_all
    have e2 : decide (z ∈ y) = v := by have := hy z; cases v <;> simp_all
    rw [e1, e2]
    have hm : z ∈ x ∨ z ∈ y := by
      rcases huv with q | q
      · exact .inl ((hx z).2 (.inl ⟨q, rfl⟩))
      · exact .inr ((hy z).2 (.inl ⟨q, rfl⟩))
    by_cases q : p u v = true
    · simp [q, hm]
    · simp [q, n1, n2]
  · have e1 : z ∈ x ↔ z ∈ x1 := by rw [hx]; simp [e]
    have e2 : z ∈ y ↔ z ∈ y1 := by rw [hy]; simp [e]
    have n : ¬ z ∈ (if p u v = true then [h] else []) := by split <;> simp [e]
    simp only [e1, e2, n, false_or]
theorem mergeZ_spec {p : Bool → Bool → Bool} : ∀ (n : Nat) (x y : List Int), x.length + y.length < n → RiseI x → RiseI y → RiseI (mergeZ p n x y) ∧ ∀ z, z ∈ mergeZ p n x y ↔ (z ∈ x ∨ z ∈ y) ∧ p (decide (z ∈ x)) (decide (z ∈ y)) = true := by
  intro n
  induction n with
  | zero => intro x y h; omega
  | succ n ih =>
    intro x y h hx hy
    have go : ∀ (u v : Bool) (a : Int) (x1 y1 : List Int), x1.length + y1.length < n → RiseI x1 → RiseI y1 → (∀ z, z ∈ x ↔ (u = true ∧ z = a) ∨ z ∈ x1) → (∀ z, z ∈ y ↔ (v = true ∧ z = a) ∨ z ∈ y1) → (∀ z ∈ x1, a < z) → (∀ z ∈ y1, a < z) → (u = true ∨ v = true) →
        mergeZ p (n + 1) x y = (if p u v = true then [a] else []) ++ mergeZ p n x1 y1 → RiseI (mergeZ p (n + 1) x y) ∧ ∀ z, z ∈ mergeZ p (n + 1) x y ↔ (z ∈ x ∨ z ∈ y) ∧ p (decide (z ∈ x)) (decide (z ∈ y)) = true := by
      intro u v a x1 y1 hl r1 r2 q1 q2 q3 q4 q5 e
      obtain ⟨i1, i2⟩ := ih x1 y1 hl r1 r2
      rw [e]
      refine ⟨merge_rise i1 fun z hz => ?_, merge_mem q1 q2 q3 q4 q5 i2⟩
      rcases ((i2 z).1 hz).1 with k | k
      · exact q3 z k
      · exact q4 z k
    cases x with
    | nil =>
      cases y with
      | nil => exact ⟨trivial, fun z => by simp [mergeZ]⟩
      | cons b y => exact go false true b [] y (by simp at h ⊢; omega) trivial hy.2 (by simp) (by simp) (by simp) hy.1 (.inr rfl) (by simp [mergeZ, firstB, nth])
    | cons a x =>
      cases y with
      | nil => exact go true false a x [] (by simp at h ⊢; omega) hx.2 trivial (by simp) (by simp) hx.1 (by simp) (.inl rfl) (by simp [mergeZ, firstB, nth])
      | cons b y =>
        simp only [List.length_cons] at h
        rcases Int.lt_trichotomy a b with q | q | q
        · exact go true false a x (b :: y) (by simp; omega) hx.2 hy (by simp) (by simp) hx.1 (fun z hz => by
            rcases List.mem_cons.1 hz with rfl | hz
            · exact q
            · have := hy.1 z hz; omega) (.inl rfl) (by simp [mergeZ, firstB, nth, show a ≤ b by omega, show ¬ b ≤ a by omega])
        · subst q
          exact go true true a x y (by omega) hx.2 hy.2 (by simp) (by simp) hx.1 hy.1 (.inl rfl) (by simp [mergeZ, firstB, nth])
        · exact go false true b (a :: x) y (by simp; omega) hx hy.2 (by simp) (by simp) (fun z hz => by
            rcases List.mem_cons.1 hz with rfl | hz
            · exact q
            · have := hx.1 z hz; omega) hy.1 (.inr rfl) (by simp [mergeZ, firstB, nth, show ¬ a ≤ b by omega, show b ≤ a by omega])
def mergeS (p : Bool → Bool → Bool) (a b : List Int) : List Int := mergeZ p ((setZ a).length + (setZ b).length + 1) (setZ a) (setZ b)
theorem mergeS_mem {p : Bool → Bool → Bool} {a b : List Int} {z : Int} : z ∈ mergeS p a b ↔ (z ∈ a ∨ z ∈ b) ∧ p (decide (z ∈ a)) (decide (z ∈ b)) = true := by
  have := (mergeZ_spec (p := p) _ (setZ a) (setZ b) (Nat.lt_succ_self _) (setZ_rise a) (setZ_rise b)).2 z
  simp only [setZ_mem] at this
  exact this
theorem mergeS_rise {p : Bool → Bool → Bool} {a b : List Int} : RiseI (mergeS p a b) := (mergeZ_spec _ (setZ a) (setZ b) (Nat.lt_succ_self _) (setZ_rise a) (setZ_rise b)).1
def meetZ (a b : List Int) : List Int := setZ (a.filter fun z => decide (z ∈ b))
def minusZ (a b : List Int) : List Int := setZ (a.filter fun z => !decide (z ∈ b))
theorem meetS (a b : List Int) : mergeS (fun u v => u && v) a b = meetZ a b := setZ_of mergeS_rise fun z => by rw [mergeS_mem, List.mem_filter]; simp only [Bool.and_eq_true, decide_eq_true_eq]; constructor <;> simp_all
theorem minusS (a b : List Int) : mergeS (fun _ v => !v) a b = minusZ a b := setZ_of mergeS_rise fun z => by rw [mergeS_mem, List.mem_filter]; simp only [Bool.not_eq_true', decide_eq_false_iff_not]; exact ⟨fun h => ⟨h.1.resolve_right h.2, h.2⟩, fun h => ⟨.inl h.1, h.2⟩⟩
theorem meetZ_mem {a b : List Int} {z : Int} : z ∈ meetZ a b ↔ z ∈ a ∧ z ∈ b := by unfold meetZ; rw [setZ_mem, List.mem_filter]; simp
theorem minusZ_mem {a b : List Int} {z : Int} : z ∈ minusZ a b ↔ z ∈ a ∧ ¬ z ∈ b := by unfold minusZ; rw [setZ_mem, List.mem_filter]; simp
theorem meetZ_rise (a b : List Int) : RiseI (meetZ a b) := setZ_rise _
theorem minusZ_rise (a b : List Int) : RiseI (minusZ a b) := setZ_rise _
end Sv
end Go.Proofs.YtlfjokcbkopfeaaGreatDoor
end
