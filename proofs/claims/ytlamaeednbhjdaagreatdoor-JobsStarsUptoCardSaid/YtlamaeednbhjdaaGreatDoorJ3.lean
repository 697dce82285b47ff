/- The texts OneZ, ParseZ, PrintZ, Pool2, Pool3, Pool4, Pool5, Pool6, Pool7, Prov1, CompI, Prov2, Prov3 of the proof, joined. Each says at its theorems what it proves. -/
import Derived.Test.YtlamaeednbhjdaaGreatDoorJ2
import Derived.Sort.OwnSortedInts
set_option linter.unusedSimpArgs false
set_option linter.unusedVariables false
namespace Go.Proofs.YtlamaeednbhjdaaGreatDoor
section
open Go Go.RowKit
namespace Sv
attribute [local irreducible] SW SO Bh SZ
set_option maxHeartbeats 1000000
set_option maxRecDepth 100000
theorem E9:Aj Tryz.prog 120:=Ap Tryz.func120 (by kernel_rfl) rfl
theorem Fy:Aj Tryz.prog 119:=Ap Tryz.func119 (by kernel_rfl) rfl
theorem L5:Aj Tryz.prog 118:=Ap Tryz.func118 (by kernel_rfl) rfl
theorem Np:Aj Tryz.prog 154:=Ap Tryz.func154 (by kernel_rfl) rfl
abbrev Rd:=DepT × List UInt8 × List UInt8
abbrev Rds:=List DepT × List UInt8 × List UInt8
def Lo (t w:List UInt8):Option Rd:=if Bc w=true then some (if 0 < A6 signsL (Ad t).1 0 then (.mk 1 w (A6 signsL (Ad t).1 0) (Ad (Ad t).2).1 [],(Ad (Ad (Ad t).2).2).2,(Ad (Ad (Ad t).2).2).1) else (.mk 1 w 0 [] [],(Ad t).2,(Ad t).1)) else none
def E8 (one:List UInt8→List UInt8→Option Rd) (v:List UInt8):Nat→List DepT→List UInt8→List UInt8→Option Rds
 |0,_,_,_=>none
 | k + 1, l, t, w => if w = v then (if l.length = 1 ∨ ¬ v = [105, 102] ∧ ¬ v = [119, 105, 116, 104, 111, 117, 116] then (match one (Ad t).2 (Ad t).1 with
   |none=>none
   |some (d,t',w')=>E8 one v k (l++[d]) t' w') else none) else some (l,t,w)
def G5 (one:List UInt8→List UInt8→Option Rd) (v:List UInt8):Option Rds→Option Rds
 |none=>none
 | some (l, t, w) => if v = [105, 102] ∧ w = [101, 108, 115, 101] then (match one (Ad t).2 (Ad t).1 with
   |none=>none
   |some (d,t',w')=>some (l++[d],t',w')) else some (l,t,w)
def Jf (v:List UInt8):Option Rds→Option Rd
 |none=>none
 |some (l,t,w)=>if w=[41] then some (.mk (A6 Bf v 0) [] 0 [] l,(Ad t).2,(Ad t).1) else none
def Lh (one:List UInt8→List UInt8→Option Rd) (n:Nat):Option Rd→Option Rd
 |none=>none
 |some (d,t,w)=>if ¬w=[]∧0 < A6 Bf w 0 then Jf w (G5 one w (E8 one w n [d] t w)) else none
def Cc:Nat→List UInt8→List UInt8→Option Rd
 |0,_,_=>none
 |n+1,t,w=>if w=[40] then Lh (Cc n) n (Cc n (Ad t).2 (Ad t).1) else Lo t w
def Q8 (one:List UInt8→List UInt8→Option Rd):Prop:=∀(t w:List UInt8) (a:Rd),one t w=some a→a.2.1.length+a.2.2.length≤t.length∧a.1.size+2*(a.2.1.length+a.2.2.length)≤2*(t.length+w.length)∧1≤w.length
theorem Q1y (l:List DepT) (d:DepT):argsSize (l++[d])=argsSize l+d.size:=by
 induction l with
 |nil=>simp only[List.nil_append,argsSize];omega
 |cons x r ih=>simp only[List.cons_append,argsSize,ih];omega
theorem Q76:Q8 Lo:=by
 intro t w a h
 have h1:=E7 t
 have h2:=E7 (Ad t).2
 have h3:=E7 (Ad (Ad t).2).2
 unfold Lo at h
 split at h
 ·rename_i hb
  have hw:1≤w.length:=by
   cases w with
   |nil=>exact absurd hb (by decide)
   |cons c r=>simp
  cases h
  split
  ·simp only[DepT.size,argsSize];exact⟨by omega,by omega,hw⟩
  ·simp only[DepT.size,argsSize,List.length_nil];exact⟨by omega,by omega,hw⟩
 ·cases h
theorem Ye {one:List UInt8→List UInt8→Option Rd} (ho:Q8 one) {v:List UInt8}:∀(k:Nat) (l:List DepT) (t w:List UInt8) {a:Rds},E8 one v k l t w=some a→a.2.1.length+a.2.2.length≤t.length+w.length∧argsSize a.1+2*(a.2.1.length+a.2.2.length)≤argsSize l+2*(t.length+w.length)
 |0,l,t,w,a,h=>by cases h
 |k+1,l,t,w,a,h=>by
  have h1:=E7 t
  unfold E8 at h
  split at h
  ·split at h
   ·split at h
    ·cases h
    ·rename_i d t' w' hd
     have h2:=ho _ _ _ hd
     have h3:=Ye ho k _ _ _ h
     rw[Q1y] at h3
     simp only at h2 h3
     exact⟨by omega,by omega⟩
   ·cases h
  ·cases h;exact⟨Nat.le_refl _,Nat.le_refl _⟩
theorem X2x {one:List UInt8→List UInt8→Option Rd} (ho:Q8 one) {v:List UInt8} {l:List DepT} {t w:List UInt8} {a:Rds} (h:G5 one v (some (l,t,w))=some a):a.2.1.length+a.2.2.length≤t.length+w.length∧argsSize a.1+2*(a.2.1.length+a.2.2.length)≤argsSize l+2*(t.length+w.length):=by
 have h1:=E7 t
 simp only[G5] at h
 split at h
 ·split at h
  ·cases h
  ·rename_i d t' w' hd
   have h2:=ho _ _ _ hd
   cases h
   simp only at h2 ⊢
   rw[Q1y]
   exact⟨by omega,by omega⟩
 ·cases h;exact⟨Nat.le_refl _,Nat.le_refl _⟩
theorem Mv:∀n,Q8 (Cc n)
 |0=>fun t w a h=>by cases h
 |n+1=>fun t w a h=>by
  have h1:=E7 t
  rw[Cc] at h
  split at h
  ·rename_i hw
   subst hw
   unfold Lh at h
   split at h
   ·cases h
   ·rename_i d t1 w1 hd
    have h2:=Mv n _ _ _ hd
    split at h
    ·cases hm:E8 (Cc n) w1 n [d] t1 w1 with
     |none=>rw[hm] at h;cases h
     |some b =>
      obtain⟨l,t2,w2⟩:=b
      have h3:=Ye (Mv n) _ _ _ _ hm
      rw[hm] at h
      cases he:G5 (Cc n) w1 (some (l,t2,w2)) with
      |none=>simp[he,Jf] at h
      |some c =>
       obtain⟨l',t3,w3⟩:=c
       have h4:=X2x (Mv n) he
       have h5:=E7 t3
       rw[he] at h
       simp only[Jf] at h
       split at h
       ·rename_i hw3
        cases h
        simp only[argsSize,DepT.size,List.length_nil,List.length_singleton] at *
        subst hw3
        simp only[List.length_singleton] at *
        exact⟨by omega,by omega,Nat.le_refl _⟩
       ·cases h
    ·cases h
  ·exact Q76 _ _ _ h
theorem Sf {n:Nat} {t w t' w':List UInt8} {d:DepT} (h:Cc n t w=some (d,t',w')):t'.length+w'.length≤t.length:=(Mv n _ _ _ h).1
theorem Kb (b:Bool) (h:b=true):FnV Tryz.prog 120 [.bool b] (.tup []):=by rw[h];exact Q7y
theorem Kc (b:Bool) (h:b=false):Uy Tryz.prog Cd 120 [.bool b] [] 0:=fun B0 φ w vs hr hv=>by
 obtain⟨v,rfl,h1⟩:=hv.single_inv
 simp only[VR] at h1
 subst h1
 refine(Q7z b w).mono ?_
 rintro e w' (⟨v,rfl,h2,_⟩|⟨rfl,_,rfl⟩)
 ·rw[h] at h2;cases h2
 ·exact Pan.pan ⟨φ,⟨⟨rfl,rfl,rfl,Nat.le_refl _,fun _ _=>rfl⟩,hr.fro,fun b o q=>(by cases q),fun b b' o o' k q=>(by cases q),fun b o k q=>(by cases q)⟩,fun _ _ _ q=>q,fun _ _ q=>q,fun _ _ q => .inl q⟩
theorem Q8t {one:List UInt8→List UInt8→Option Rd} {v:List UInt8} {k:Nat} {l:List DepT} {t w:List UInt8} (hk:0 < k) (hw:w=v) (h:¬(l.length=1∨¬v=[105,102]∧¬v=[119,105,116,104,111,117,116])):E8 one v k l t w=none:=by
 obtain⟨j,rfl⟩:∃j,k=j+1:=⟨k-1,by omega⟩
 rw[E8,if_pos hw,if_neg h]
theorem Yd {one:List UInt8→List UInt8→Option Rd} {v:List UInt8} {k:Nat} {l:List DepT} {t w:List UInt8} (hk:0 < k) (hw:w=v) (h:l.length=1∨¬v=[105,102]∧¬v=[119,105,116,104,111,117,116]) (e:one (Ad t).2 (Ad t).1=none):E8 one v k l t w=none:=by
 obtain⟨j,rfl⟩:∃j,k=j+1:=⟨k-1,by omega⟩
 rw[E8,if_pos hw,if_pos h,e]
theorem Q8u {one:List UInt8→List UInt8→Option Rd} {v:List UInt8} {k:Nat} {l:List DepT} {t w t' w':List UInt8} {d:DepT} (hk:0 < k) (hw:w=v) (h:l.length=1∨¬v=[105,102]∧¬v=[119,105,116,104,111,117,116]) (e:one (Ad t).2 (Ad t).1=some (d,t',w')):E8 one v k l t w=E8 one v (k-1) (l++[d]) t' w':=by
 obtain⟨j,rfl⟩:∃j,k=j+1:=⟨k-1,by omega⟩
 rw[E8,if_pos hw,if_pos h,e];rfl
theorem Q8v {one:List UInt8→List UInt8→Option Rd} {v:List UInt8} {k:Nat} {l:List DepT} {t w:List UInt8} (hk:0 < k) (hw:¬w=v):E8 one v k l t w=some (l,t,w):=by
 obtain⟨j,rfl⟩:∃j,k=j+1:=⟨k-1,by omega⟩
 rw[E8,if_neg hw]
theorem Q02 {one:List UInt8→List UInt8→Option Rd} {v:List UInt8} {l:List DepT} {t w:List UInt8} (h:v=[105,102]∧w=[101,108,115,101]) (e:one (Ad t).2 (Ad t).1=none):G5 one v (some (l,t,w))=none:=by rw[G5,if_pos h,e]
theorem X2v {one:List UInt8→List UInt8→Option Rd} {v:List UInt8} {l:List DepT} {t w t' w':List UInt8} {d:DepT} (h:v=[105,102]∧w=[101,108,115,101]) (e:one (Ad t).2 (Ad t).1=some (d,t',w')):G5 one v (some (l,t,w))=some (l++[d],t',w'):=by rw[G5,if_pos h,e]
theorem X2w {one:List UInt8→List UInt8→Option Rd} {v:List UInt8} {l:List DepT} {t w:List UInt8} (h:¬v=[105,102]∨¬w=[101,108,115,101]):G5 one v (some (l,t,w))=some (l,t,w):=by rw[G5,if_neg fun q=>h.elim (fun k=>k q.1) fun k=>k q.2]
theorem Yc {m:Int} {n:Nat} {p q:Prop} [Decidable p] [Decidable q] {x:Bool} (e:m=n) (h:(decide (m=1)||(!decide p&&!decide q))=x):(x=true→n=1∨¬p∧¬q)∧(x=false→¬(n=1∨¬p∧¬q)):=by
 subst e h
 by_cases h1:n=1<;>by_cases hp:p<;>by_cases hq:q<;>simp[h1,hp,hq]<;>omega
theorem X4f (l:List DepT) (d:DepT):Imp (.row 5 (l.map Am++[Am d]).length (fun i=>(l.map Am++[Am d]).getD i Bl)) (.row 5 (l++[d]).length (depAt (l++[d]))):=by
 rw[show l.map Am++[Am d]=(l++[d]).map Am by simp]
 exact(Imp.list (f:=Am) (List.length_map Am)).trans (Jj _)
theorem Q7h (n : Nat) (t w : List UInt8) (hm : t.length + w.length < n + 1) (hn : n ≤ 8388608) (ih : ∀ t w : List UInt8, t.length + w.length < n → CallZ Tryz.prog Cd 119 [.ptr 0 0] [(0, .row [.str t, .str w] 158)] 1 (Cc n t w) (fun a => Am a.1) (fun a => [(0, .row [.str a.2.1, .str a.2.2] 158)])) :
  CallZ Tryz.prog Cd 119 [(.ptr 0 0)] [(0,(.row [(.str t),(.str w)] 158))] 1 (Cc (n+1) t w) (fun a=>Am a.1) (fun a=>[(0,.row [.str a.2.1,.str a.2.2] 158)]):=by
 have hL0:=E7 t
 have hL1:=E7 (Ad t).2
 have hL2:=E7 (Ad (Ad t).2).2
 refine X7r [.cell 2 67] Tryz.func119 rfl Tryz.ntmps119 rfl rfl (by kernel_rfl) (by kernel_rfl) (fun a=>by kernel_rfl) (fun B F hF=>?_)
 refine Aa [] [0,2] ?_
 refine Ab ?_
 refine Ar ?_
 refine Bm 1 0 [] [0,2,8] [] hk0 v0 c0 ?_
 refine Dy [0] (al:=[(.ptr 0 0)]) (al':=[(.ptr 0 0)]) (r:=(.str w)) (r':=(.str w)) (s':=[(0,(.ptr 0 0)),(2,(.ptr 1 0)),(8,(.ptr 0 0)),(9,(.str w))]) (H:=[(0,(.row [(.str t),(.str w)] 158))]) (H':=[(0,(.row [(.str ((Ad t).2)),(.str ((Ad t).1))] 158))]) (h2:=[(0,(.row [(.str ((Ad t).2)),(.str ((Ad t).1))] 158)),(1,(.row [(.int .i64 0),(.str []),(.int .i64 0),(.str []),.nils] 67))]) (by kernel_rfl) (by exact Np) (by kernel_rfl) (by kernel_rfl) (by kernel_rfl) (by kernel_rfl) (by kernel_rfl) (On t w (by omega)) (by kernel_rfl) (by kernel_rfl) (by kernel_rfl) ?_
 refine Aw 2 [] [0,2,3] [] hk0 v0 c0 ?_
 refine Ab ?_
 refine Aa [] [0,2,3,11] ?_
 refine Dh (p:=w=[40]) (by kernel_rfl) (fun c1=>?_) (fun c1=>?_)
 ·have hw:¬w=[40]:=c1
  refine Ab ?_
  refine Ar ?_
  refine Bm 2 0 [] [0,2,3,13] [] (hk 1 Ji (Mf w (by omega))<|hk0) v0 c0 ?_
  refine Hy (Bc w) (fun hz1=>?_) (fun hz1=>Ga [] (by exact E9) (Kc (Bc w) hz1) (fun _ _=>show Cd=Cd∧Cc (n+1) t w=none from ⟨rfl,by rw[Cc,if_neg hw,Lo,if_neg (by rw[hz1];simp)]⟩))
  have hnm:=hz1
  refine Jt (s':=[(0,(.ptr 0 0)),(2,(.ptr 1 0)),(3,(.str w)),(13,(.bool (Bc w))),(14,(.tup []))]) (al:=[(.bool (Bc w))]) (r:=(.tup [])) (by kernel_rfl) (by exact E9) (by kernel_rfl) (by kernel_rfl) (Kb (Bc w) hz1) (by kernel_rfl) ?_
  refine Bo ?_
  refine Aa [] [0,2,4] ?_
  refine Ab ?_
  refine Cv [] [0,2,4,5] [] (hk 0 Tl V0<|hk 5 Nm ((P0 signsL ((Ad t).1) (by decide)))<|hk0) v0 c0 ?_
  refine Aa [] [0,2,4,5,24] ?_
  refine Ba (p:=0 < (A6 signsL ((Ad t).1) 0)) (by kernel_rfl) (fun c2=>?_) (fun c2=>?_)
  ·refine Ab ?_
   refine Ar ?_
   refine Bm 1 0 [] [0,2,4,5,25] [] hk0 v0 c0 ?_
   refine Dy [0] (al:=[(.ptr 0 0)]) (al':=[(.ptr 0 0)]) (r:=(.tup [])) (r':=(.tup [])) (s':=[(0,(.ptr 0 0)),(2,(.ptr 1 0)),(4,(.ptr 2 0)),(5,(.int .i64 (A6 signsL ((Ad t).1) 0))),(25,(.ptr 0 0)),(26,(.tup []))]) (H:=[(0,(.row [(.str ((Ad t).2)),(.str ((Ad t).1))] 158))]) (H':=[(0,(.row [(.str ((Ad ((Ad t).2)).2)),(.str ((Ad ((Ad t).2)).1))] 158))]) (h2:=[(0,(.row [(.str ((Ad ((Ad t).2)).2)),(.str ((Ad ((Ad t).2)).1))] 158)),(1,(.row [(.int .i64 0),(.str []),(.int .i64 0),(.str []),.nils] 67)),(2,(.row [(.int .i64 1),(.str w),(.int .i64 0),(.str []),.nils] 67))]) (by kernel_rfl) (by exact L5) (by kernel_rfl) (by kernel_rfl) (by kernel_rfl) (by kernel_rfl) (by kernel_rfl) (Mx ((Ad t).2) ((Ad t).1) (by omega)) (by kernel_rfl) (by kernel_rfl) (by kernel_rfl) ?_
   refine Bo ?_
   refine Ar ?_
   refine Bm 2 0 [] [2,4,27,28] [] hk0 v0 c0 ?_
   refine Dy [0] (al:=[(.ptr 0 0)]) (al':=[(.ptr 0 0)]) (r:=(.str ((Ad ((Ad t).2)).1))) (r':=(.str ((Ad ((Ad t).2)).1))) (s':=[(2,(.ptr 1 0)),(4,(.ptr 2 0)),(27,(.int .i64 (A6 signsL ((Ad t).1) 0))),(28,(.ptr 0 0)),(29,(.str ((Ad ((Ad t).2)).1)))]) (H:=[(0,(.row [(.str ((Ad ((Ad t).2)).2)),(.str ((Ad ((Ad t).2)).1))] 158))]) (H':=[(0,(.row [(.str ((Ad ((Ad ((Ad t).2)).2)).2)),(.str ((Ad ((Ad ((Ad t).2)).2)).1))] 158))]) (h2:=[(0,(.row [(.str ((Ad ((Ad ((Ad t).2)).2)).2)),(.str ((Ad ((Ad ((Ad t).2)).2)).1))] 158)),(1,(.row [(.int .i64 0),(.str []),(.int .i64 0),(.str []),.nils] 67)),(2,(.row [(.int .i64 1),(.str w),(.int .i64 0),(.str []),.nils] 67))]) (by kernel_rfl) (by exact Np) (by kernel_rfl) (by kernel_rfl) (by kernel_rfl) (by kernel_rfl) (by kernel_rfl) (On ((Ad ((Ad t).2)).2) ((Ad ((Ad t).2)).1) (by omega)) (by kernel_rfl) (by kernel_rfl) (by kernel_rfl) ?_
   refine Aw 3 [] [2,4] [] hk0 v0 c0 ?_
   refine Ae [] [2] [] hk0 (vk 1 32 (a:=(.agg [(.int .i64 1),(.str w),(.int .i64 (A6 signsL ((Ad t).1) 0)),(.str ((Ad ((Ad t).2)).1)),.nils])) (b:=(.agg [(.int .i64 ((DepT.mk 1 w (A6 signsL ((Ad t).1) 0) ((Ad ((Ad t).2)).1) []).kind)),(.str ((DepT.mk 1 w (A6 signsL ((Ad t).1) 0) ((Ad ((Ad t).2)).1) []).name)),(.int .i64 ((DepT.mk 1 w (A6 signsL ((Ad t).1) 0) ((Ad ((Ad t).2)).1) []).op)),(.str ((DepT.mk 1 w (A6 signsL ((Ad t).1) 0) ((Ad ((Ad t).2)).1) []).evr)),(.row 5 (DepT.mk 1 w (A6 signsL ((Ad t).1) 0) ((Ad ((Ad t).2)).1) []).args.length (depAt (DepT.mk 1 w (A6 signsL ((Ad t).1) 0) ((Ad ((Ad t).2)).1) []).args))])) ((Imp.aggs (ImpL.cons Imp.refl (ImpL.cons Imp.refl (ImpL.cons Imp.refl (ImpL.cons Imp.refl (ImpL.cons (Imp.nil.trans (Jj [])) ImpL.nil)))))))<|v0) c0 ?_
   refine Ac ?_
   refine O5 (ch:=Cd) (DepT.mk 1 w (A6 signsL (Ad t).1 0) (Ad (Ad t).2).1 [],(Ad (Ad (Ad t).2).2).2,(Ad (Ad (Ad t).2).2).1) ?_ wR (al:=[(.agg [(.int .i64 ((DepT.mk 1 w (A6 signsL ((Ad t).1) 0) ((Ad ((Ad t).2)).1) []).kind)),(.str ((DepT.mk 1 w (A6 signsL ((Ad t).1) 0) ((Ad ((Ad t).2)).1) []).name)),(.int .i64 ((DepT.mk 1 w (A6 signsL ((Ad t).1) 0) ((Ad ((Ad t).2)).1) []).op)),(.str ((DepT.mk 1 w (A6 signsL ((Ad t).1) 0) ((Ad ((Ad t).2)).1) []).evr)),(.row 5 (DepT.mk 1 w (A6 signsL ((Ad t).1) 0) ((Ad ((Ad t).2)).1) []).args.length (depAt (DepT.mk 1 w (A6 signsL ((Ad t).1) 0) ((Ad ((Ad t).2)).1) []).args))])]) (by kernel_rfl) ?_ ((by kernel_rfl:Cj 1 _=some [(0,(.row [(.str ((Ad ((Ad ((Ad t).2)).2)).2)),(.str ((Ad ((Ad ((Ad t).2)).2)).1))] 158))]).trans ?_)
   ·rw[Cc,if_neg hw,Lo,if_pos hnm,if_pos c2]
   ·rfl
   ·rfl
  ·refine Ah ?_
   refine Ae [] [2] [] hk0 (vk 1 32 (a:=(.agg [(.int .i64 1),(.str w),(.int .i64 0),(.str []),.nils])) (b:=(.agg [(.int .i64 ((DepT.mk 1 w 0 [] []).kind)),(.str ((DepT.mk 1 w 0 [] []).name)),(.int .i64 ((DepT.mk 1 w 0 [] []).op)),(.str ((DepT.mk 1 w 0 [] []).evr)),(.row 5 (DepT.mk 1 w 0 [] []).args.length (depAt (DepT.mk 1 w 0 [] []).args))])) ((Imp.aggs (ImpL.cons Imp.refl (ImpL.cons Imp.refl (ImpL.cons Imp.refl (ImpL.cons Imp.refl (ImpL.cons (Imp.nil.trans (Jj [])) ImpL.nil)))))))<|v0) c0 ?_
   refine Ac ?_
   refine O5 (ch:=Cd) (DepT.mk 1 w 0 [] [],(Ad t).2,(Ad t).1) ?_ wR (al:=[(.agg [(.int .i64 ((DepT.mk 1 w 0 [] []).kind)),(.str ((DepT.mk 1 w 0 [] []).name)),(.int .i64 ((DepT.mk 1 w 0 [] []).op)),(.str ((DepT.mk 1 w 0 [] []).evr)),(.row 5 (DepT.mk 1 w 0 [] []).args.length (depAt (DepT.mk 1 w 0 [] []).args))])]) (by kernel_rfl) ?_ ((by kernel_rfl:Cj 1 _=some [(0,(.row [(.str ((Ad t).2)),(.str ((Ad t).1))] 158))]).trans ?_)
   ·rw[Cc,if_neg hw,Lo,if_pos hnm,if_neg c2]
   ·rfl
   ·rfl
 ·have hw:w=[40]:=c1
  have hwl:w.length=1:=by rw[hw];rfl
  refine Ah ?_
  refine Ab ?_
  refine Ar ?_
  refine Bm 1 0 [] [0,2,33] [] hk0 v0 c0 ?_
  refine Pj (Cc n ((Ad t).2) ((Ad t).1)) (fun hz2=>Ga [0] (by exact Fy) ((ih ((Ad t).2) ((Ad t).1) (by omega)).no hz2) (fun _ _=>show Cd=Cd∧Cc (n+1) t w=none from ⟨rfl,by rw[Cc,if_pos hw,hz2];rfl⟩)) (fun⟨d0,t1,w1⟩ hz2=>?_)
  have hle:=Sf hz2
  have hL3:=E7 t1
  have hpar:Cc (n+1) t w=Lh (Cc n) n (some (d0,t1,w1)):=by rw[Cc,if_pos hw,hz2]
  refine Dy [0] (al:=[(.ptr 0 0)]) (al':=[(.ptr 0 0)]) (r:=(.agg [(.int .i64 d0.kind),(.str d0.name),(.int .i64 d0.op),(.str d0.evr),(.row 5 d0.args.length (depAt d0.args))])) (r':=(.agg [(.int .i64 d0.kind),(.str d0.name),(.int .i64 d0.op),(.str d0.evr),(.row 5 d0.args.length (depAt d0.args))])) (s':=[(0,(.ptr 0 0)),(2,(.ptr 1 0)),(33,(.ptr 0 0)),(34,(.agg [(.int .i64 d0.kind),(.str d0.name),(.int .i64 d0.op),(.str d0.evr),(.row 5 d0.args.length (depAt d0.args))]))]) (H:=[(0,(.row [(.str ((Ad t).2)),(.str ((Ad t).1))] 158))]) (H':=[(0,(.row [(.str t1),(.str w1)] 158))]) (h2:=[(0,(.row [(.str t1),(.str w1)] 158)),(1,(.row [(.int .i64 0),(.str []),(.int .i64 0),(.str []),.nils] 67))]) (by kernel_rfl) (by exact Fy) (by kernel_rfl) (by kernel_rfl) (by kernel_rfl) (by kernel_rfl) (by kernel_rfl) ((ih ((Ad t).2) ((Ad t).1) (by omega)).yes hz2) (by kernel_rfl) (by kernel_rfl) (by kernel_rfl) ?_
  refine Bm 1 2 [] [0,2,35] [] hk0 v0 c0 ?_
  refine X56 67 5 35 (y:=⟨[(0,(.ptr 0 0)),(2,(.ptr 1 0)),(35,(.own 3))],[(0,(.row [(.str t1),(.str w1)] 158)),(1,(.row [(.int .i64 0),(.str []),(.int .i64 0),(.str []),.nils] 67)),(3,(.grow ([(.agg [(.int .i64 d0.kind),(.str d0.name),(.int .i64 d0.op),(.str d0.evr),(.row 5 d0.args.length (depAt d0.args))])]:List AV) 67 5))],4⟩) (by kernel_rfl) (by kernel_rfl) ?_
  refine Aw 3 [] [0,2,6] [] hk0 v0 c0 ?_
  refine Aa [] [0,2,6,7] ?_
  refine Ab ?_
  refine Ar ?_
  refine Bm 2 0 [] [0,2,6,7,42] [] hk0 v0 c0 ?_
  refine Hy (!decide (w1=[])) (fun hz3=>?_) (fun hz3=>Ga [] (by exact E9) (Kc (!decide (w1=[])) hz3) (fun _ _=>show Cd=Cd∧Cc (n+1) t w=none from ⟨rfl,by rw[hpar,Lh,if_neg (fun q=>q.1 (by simpa using hz3))]⟩))
  have hne:¬w1=[]:=by simpa using hz3
  have hwl1:1≤w1.length:=List.length_pos_iff.2 hne
  refine Jt (s':=[(0,(.ptr 0 0)),(2,(.ptr 1 0)),(6,(.ptr 4 0)),(7,(.str w1)),(42,(.bool (!decide (w1=[])))),(43,(.tup []))]) (al:=[(.bool (!decide (w1=[])))]) (r:=(.tup [])) (by kernel_rfl) (by exact E9) (by kernel_rfl) (by kernel_rfl) (Kb (!decide (w1=[])) hz3) (by kernel_rfl) ?_
  refine Bo ?_
  refine Ae [] [0,2,6,7] [] (hk 0 Tk U9<|hk 2 Nm ((P0 Bf w1 (by decide)))<|hk0) v0 c0 ?_
  refine Ab ?_
  refine Ar ?_
  refine Bm 3 0 [] [0,2,6,7,50] [] hk0 v0 c0 ?_
  refine Hy (decide (0 < (A6 Bf w1 0))) (fun hz4=>?_) (fun hz4=>Ga [] (by exact E9) (Kc (decide (0 < (A6 Bf w1 0))) hz4) (fun _ _=>show Cd=Cd∧Cc (n+1) t w=none from ⟨rfl,by rw[hpar,Lh,if_neg (fun q=>absurd q.2 (of_decide_eq_false hz4))]⟩))
  have hkd:0 < A6 Bf w1 0:=of_decide_eq_true hz4
  refine Jt (s':=[(0,(.ptr 0 0)),(2,(.ptr 1 0)),(6,(.ptr 4 0)),(7,(.str w1)),(50,(.bool (decide (0 < (A6 Bf w1 0))))),(51,(.tup []))]) (al:=[(.bool (decide (0 < (A6 Bf w1 0))))]) (r:=(.tup [])) (by kernel_rfl) (by exact E9) (by kernel_rfl) (by kernel_rfl) (Kb (decide (0 < (A6 Bf w1 0))) hz4) (by kernel_rfl) ?_
  refine Bo ?_
  refine Ab ?_
  refine Ax ?_
  refine B4 (fun g y=>∃(k:Nat) (l:List DepT) (tt ww:List UInt8),tt.length+ww.length < k∧k≤n∧1≤l.length∧l.length+(tt.length+ww.length)≤n+1∧Cc (n+1) t w=Jf w1 (G5 (Cc n) w1 (E8 (Cc n) w1 k l tt ww))∧y=⟨[(0,(.ptr 0 0)),(2,(.ptr 1 0)),(6,(.ptr 4 0)),(7,(.str w1))],[(0,(.row [(.str tt),(.str ww)] 158)),(1,(.row [(.int .i64 0),(.str []),(.int .i64 0),(.str []),.nils] 67)),(3,(.grow (l.map Am) 67 5)),(4,(.row [(.int .i64 (A6 Bf w1 0)),(.str []),(.int .i64 0),(.str []),(.own 3)] 67))],5⟩∧g=k+1) [0,2,6,7] 5 _ (by omega) ⟨n,[d0],t1,w1,(by omega),(by omega),(by simp),(by simp;omega),(by rw[hpar,Lh,if_pos ⟨hne,hkd⟩]),(by kernel_rfl),rfl⟩ ?_
  rintro g1 y1 ⟨k,l,tt,ww,hk1,hk2,hl1,hl2,hq,rfl,rfl⟩
  have hLt:=E7 tt
  have hml:(l.map Am).length=l.length:=List.length_map Am
  refine Ab ?_
  refine Aa [] [0,2,6,7,57] ?_
  refine Ba (p:=ww=w1) (by kernel_rfl) (fun c3=>?_) (fun c3=>?_)
  ·have hwe:ww.length=w1.length:=by rw[c3]
   refine Ah ?_
   refine Ax ?_
   refine Ab ?_
   refine Ar ?_
   refine Bm (CS:=[(6,((!(decide (((l.map Am).length:Int)=1)))=true→(!(decide (((l.map Am).length:Int)=1)))=true)),(7,((!(decide (((l.map Am).length:Int)=1)))=true→(!(decide (((l.map Am).length:Int)=1)))=true)),(9,(((!(decide (((l.map Am).length:Int)=1)))&&(!decide (w1=[105,102])))=true→((!(decide (((l.map Am).length:Int)=1)))&&(!decide (w1=[105,102])))=true)),(10,((!(decide (((l.map Am).length:Int)=1)))=true→((!(decide (((l.map Am).length:Int)=1)))=true)∧((!decide (w1=[105,102]))=true→((!(decide (((l.map Am).length:Int)=1)))&&(!decide (w1=[105,102])))=true))),(11,((decide (((l.map Am).length:Int)=1))=false→(!(decide (((l.map Am).length:Int)=1)))=true))]) 12 0 [63,64,65,66,67,68] [0,2,6,7,69] [] hk0 v0 (by refine cc _ ?_<|cc _ ?_<|cc _ ?_<|cc _ ?_<|cc _ ?_ c0<;>first|omega|(simp;omega)|(simp;done)|(intros;simp_all;omega)|(intros;simp_all;done)) ?_
   refine Hy ((decide (((l.map Am).length:Int)=1))||((!decide (w1=[105,102]))&&(!decide (w1=[119,105,116,104,111,117,116])))) (fun hz5=>?_) (fun hz5=>Ga [] (by exact E9) (Kc ((decide (((l.map Am).length:Int)=1))||((!decide (w1=[105,102]))&&(!decide (w1=[119,105,116,104,111,117,116])))) hz5) (fun _ _=>show Cd=Cd∧Cc (n+1) t w=none from ⟨rfl,by rw[hq,Q8t (by omega) c3 ((Yc (by omega) hz5).2 rfl)];rfl⟩))
   have hok:=(Yc (n:=l.length) (by omega) hz5).1 rfl
   refine Jt (s':=[(0,(.ptr 0 0)),(2,(.ptr 1 0)),(6,(.ptr 4 0)),(7,(.str w1)),(69,(.bool ((decide (((l.map Am).length:Int)=1))||((!decide (w1=[105,102]))&&(!decide (w1=[119,105,116,104,111,117,116])))))),(70,(.tup []))]) (al:=[(.bool ((decide (((l.map Am).length:Int)=1))||((!decide (w1=[105,102]))&&(!decide (w1=[119,105,116,104,111,117,116])))))]) (r:=(.tup [])) (by kernel_rfl) (by exact E9) (by kernel_rfl) (by kernel_rfl) (Kb ((decide (((l.map Am).length:Int)=1))||((!decide (w1=[105,102]))&&(!decide (w1=[119,105,116,104,111,117,116])))) hz5) (by kernel_rfl) ?_
   refine Bo ?_
   refine Ab ?_
   refine Ar ?_
   refine Bm 1 0 [] [0,2,6,7,71] [] hk0 v0 c0 ?_
   refine Dy [0] (al:=[(.ptr 0 0)]) (al':=[(.ptr 0 0)]) (r:=(.tup [])) (r':=(.tup [])) (s':=[(0,(.ptr 0 0)),(2,(.ptr 1 0)),(6,(.ptr 4 0)),(7,(.str w1)),(71,(.ptr 0 0)),(72,(.tup []))]) (H:=[(0,(.row [(.str tt),(.str ww)] 158))]) (H':=[(0,(.row [(.str ((Ad tt).2)),(.str ((Ad tt).1))] 158))]) (h2:=[(0,(.row [(.str ((Ad tt).2)),(.str ((Ad tt).1))] 158)),(1,(.row [(.int .i64 0),(.str []),(.int .i64 0),(.str []),.nils] 67)),(3,(.grow (l.map Am) 67 5)),(4,(.row [(.int .i64 (A6 Bf w1 0)),(.str []),(.int .i64 0),(.str []),(.own 3)] 67))]) (by kernel_rfl) (by exact L5) (by kernel_rfl) (by kernel_rfl) (by kernel_rfl) (by kernel_rfl) (by kernel_rfl) (Mx tt ww (by omega)) (by kernel_rfl) (by kernel_rfl) (by kernel_rfl) ?_
   refine Bo ?_
   refine Pj (Cc n ((Ad tt).2) ((Ad tt).1)) (fun hz6=>?_) (fun⟨d1,t2,w2⟩ hz6=>?_)
   ·refine Q2z (by kernel_rfl) ?_
    refine Qw 0 ?_
    refine Qw 2 ?_
    refine Q2v 1 3 (by kernel_rfl) rfl rfl ?_ ?_
    ·refine Ez [] [75] ?_
     refine Q2w 3 (by kernel_rfl) rfl ?_
     exact Ga [0] (by exact Fy) ((ih ((Ad tt).2) ((Ad tt).1) (by omega)).no hz6) (fun _ _=>show Cd=Cd∧Cc (n+1) t w=none from ⟨rfl,by rw[hq,Yd (by omega) c3 hok hz6];rfl⟩)
    ·exact Ga [0] (by exact Fy) ((ih ((Ad tt).2) ((Ad tt).1) (by omega)).no hz6) (fun _ _=>show Cd=Cd∧Cc (n+1) t w=none from ⟨rfl,by rw[hq,Yd (by omega) c3 hok hz6];rfl⟩)
   ·have hle2:=Sf hz6
    have hq2:=hz6
    refine Iz (by kernel_rfl) (fun F1 hF1=>?_)
    refine B5 false 3 (lsD 8 [0,1,2,3,4]) ⟨[(0,(.ptr 0 0)),(2,(.ptr 1 0)),(6,(.ptr 4 0)),(7,(.str w1)),(74,(.own 3)),(77,(.sl 5 0 1 1 false))],[(0,(.row [(.str t2),(.str w2)] 158)),(1,(.row [(.int .i64 0),(.str []),(.int .i64 0),(.str []),.nils] 67)),(3,(.grow (l.map Am) 67 5)),(4,(.row [(.int .i64 (A6 Bf w1 0)),(.str []),(.int .i64 0),(.str []),(.own 3)] 67)),(5,(.row [(.int .i64 d1.kind),(.str d1.name),(.int .i64 d1.op),(.str d1.evr),(.row 5 d1.args.length (depAt d1.args))] 67))],6⟩ ?_ (fun m1_1=>?_)
    ·refine Cq (fuel:=2) 5 [] (hold (p:=(((l.map Am).length+1)*72≤140737488355328)) (by first|omega|(simp;omega)|(simp;done)|(intros;simp_all;omega)|(intros;simp_all;done))) ?_
     refine Ck (fuel:=1) [] [6] [0,2,6,7,78,79] Av ?_
     refine Cq (fuel:=0) 7 [] Av ?_
     refine As [0,2,6,7] ?_
     refine Hd (by kernel_rfl) ?_
     refine⟨by kernel_rfl,_,?_,(k-1),(l++[d1]),t2,w2,?_,?_,?_,?_,?_,(Eq.trans (b:=(⟨[(0,(.ptr 0 0)),(2,(.ptr 1 0)),(6,(.ptr 4 0)),(7,(.str w1))],[(0,(.row [(.str t2),(.str w2)] 158)),(1,(.row [(.int .i64 0),(.str []),(.int .i64 0),(.str []),.nils] 67)),(3,(.grow ((l.map Am)++([(.agg [(.int .i64 d1.kind),(.str d1.name),(.int .i64 d1.op),(.str d1.evr),(.row 5 d1.args.length (depAt d1.args))])]:List AV)) 67 5)),(4,(.row [(.int .i64 (A6 Bf w1 0)),(.str []),(.int .i64 0),(.str []),(.own 3)] 67))],5⟩:St)) (by kernel_rfl) (by rw[show(l++[d1]).map Am=l.map Am++[Am d1] from by rw[List.map_append];rfl]<;>kernel_rfl)),rfl⟩
     ·omega
     ·omega
     ·omega
     ·simp
     ·rw[List.length_append,List.length_singleton];omega
     ·rw[hq,Q8u (by omega) c3 hok hq2]
    refine B5 false 4 (lsD 8 [0,1,2,3]) ⟨[(0,(.ptr 0 0)),(2,(.ptr 1 0)),(6,(.ptr 4 0)),(7,(.str w1)),(74,(.own 3)),(76,(.agg [(.int .i64 d1.kind),(.str d1.name),(.int .i64 d1.op),(.str d1.evr),(.row 5 d1.args.length (depAt d1.args))]))],[(0,(.row [(.str t2),(.str w2)] 158)),(1,(.row [(.int .i64 0),(.str []),(.int .i64 0),(.str []),.nils] 67)),(3,(.grow (l.map Am) 67 5)),(4,(.row [(.int .i64 (A6 Bf w1 0)),(.str []),(.int .i64 0),(.str []),(.own 3)] 67))],5⟩ ?_ (fun m1_2=>?_)
    ·refine Cq (fuel:=3) 4 [] Av ?_
     refine As [0,2,6,7,74,77] ?_
     exact A0 m1_1
    refine Ck (fuel:=6) [] [0,2] [0,2,6,7,73,75] Av ?_
    refine Ca 1 3 (by kernel_rfl) ?_ ?_
    ·refine A2 (fuel:=5) 1 [] Av ?_
     refine As [0,2,6,7,74,75] ?_
     refine Ep (fuel:=4) 3 (by kernel_rfl) ?_
     refine Cf (fuel:=4) 3 rfl ?_
     refine Dy [0] (al:=[(.ptr 0 0)]) (al':=[(.ptr 0 0)]) (r:=(.agg [(.int .i64 d1.kind),(.str d1.name),(.int .i64 d1.op),(.str d1.evr),(.row 5 d1.args.length (depAt d1.args))])) (r':=(.agg [(.int .i64 d1.kind),(.str d1.name),(.int .i64 d1.op),(.str d1.evr),(.row 5 d1.args.length (depAt d1.args))])) (s':=[(0,(.ptr 0 0)),(2,(.ptr 1 0)),(6,(.ptr 4 0)),(7,(.str w1)),(74,(.own 3)),(75,(.ptr 0 0)),(76,(.agg [(.int .i64 d1.kind),(.str d1.name),(.int .i64 d1.op),(.str d1.evr),(.row 5 d1.args.length (depAt d1.args))]))]) (H:=[(0,(.row [(.str ((Ad tt).2)),(.str ((Ad tt).1))] 158))]) (H':=[(0,(.row [(.str t2),(.str w2)] 158))]) (h2:=[(0,(.row [(.str t2),(.str w2)] 158)),(1,(.row [(.int .i64 0),(.str []),(.int .i64 0),(.str []),.nils] 67)),(3,(.grow (l.map Am) 67 5)),(4,(.row [(.int .i64 (A6 Bf w1 0)),(.str []),(.int .i64 0),(.str []),(.own 3)] 67))]) (by kernel_rfl) (by exact Fy) (by kernel_rfl) (by kernel_rfl) (by kernel_rfl) (by kernel_rfl) (by kernel_rfl) ((ih ((Ad tt).2) ((Ad tt).1) (by omega)).yes hz6) (by kernel_rfl) (by kernel_rfl) (by kernel_rfl) ?_
     refine Bo ⟨rfl,?_⟩
     refine As [0,2,6,7,74,76] ?_
     exact A0 m1_2
    ·refine Cf (fuel:=5) 3 rfl ?_
     refine Dy [0] (al:=[(.ptr 0 0)]) (al':=[(.ptr 0 0)]) (r:=(.agg [(.int .i64 d1.kind),(.str d1.name),(.int .i64 d1.op),(.str d1.evr),(.row 5 d1.args.length (depAt d1.args))])) (r':=(.agg [(.int .i64 d1.kind),(.str d1.name),(.int .i64 d1.op),(.str d1.evr),(.row 5 d1.args.length (depAt d1.args))])) (s':=[(0,(.ptr 0 0)),(2,(.ptr 1 0)),(6,(.ptr 4 0)),(7,(.str w1)),(73,(.ptr 4 4)),(75,(.ptr 0 0)),(76,(.agg [(.int .i64 d1.kind),(.str d1.name),(.int .i64 d1.op),(.str d1.evr),(.row 5 d1.args.length (depAt d1.args))]))]) (H:=[(0,(.row [(.str ((Ad tt).2)),(.str ((Ad tt).1))] 158))]) (H':=[(0,(.row [(.str t2),(.str w2)] 158))]) (h2:=[(0,(.row [(.str t2),(.str w2)] 158)),(1,(.row [(.int .i64 0),(.str []),(.int .i64 0),(.str []),.nils] 67)),(3,(.grow (l.map Am) 67 5)),(4,(.row [(.int .i64 (A6 Bf w1 0)),(.str []),(.int .i64 0),(.str []),(.own 3)] 67))]) (by kernel_rfl) (by exact Fy) (by kernel_rfl) (by kernel_rfl) (by kernel_rfl) (by kernel_rfl) (by kernel_rfl) ((ih ((Ad tt).2) ((Ad tt).1) (by omega)).yes hz6) (by kernel_rfl) (by kernel_rfl) (by kernel_rfl) ?_
     refine Bo ⟨rfl,?_⟩
     refine As [0,2,6,7,73,76] ?_
     refine Ca 1 4 (by kernel_rfl) ?_ ?_
     ·refine A2 (fuel:=4) 1 [] Av ?_
      refine As [0,2,6,7,74,76] ?_
      exact A0 m1_2
     ·refine A2 (fuel:=4) 4 [] Av ?_
      refine As [0,2,6,7,73,77] ?_
      refine Cq (fuel:=3) 1 [] Av ?_
      refine As [0,2,6,7,74,77] ?_
      exact A0 m1_1
  ·have hq2:=hq.trans (by rw[Q8v (by omega) c3])
   refine Bq ?_
   refine Ab ?_
   refine Ae (CS:=[(4,((decide (w1=[105,102]))=true→(decide (w1=[105,102]))=true)),(5,((decide (w1=[105,102]))=true→(decide (w1=[105,102]))=true)),(6,((decide (w1=[105,102]))=true→(decide (w1=[105,102]))=true)),(7,((decide (w1=[105,102]))=true→(decide (w1=[105,102]))=true)),(8,((decide (w1=[105,102]))=true→(decide (w1=[105,102]))=true))]) [83,84,85,86,87] [0,2,6,88] [] hk0 v0 (by refine cc _ ?_<|cc _ ?_<|cc _ ?_<|cc _ ?_<|cc _ ?_ c0<;>first|omega|(simp;omega)|(simp;done)|(intros;simp_all;omega)|(intros;simp_all;done)) ?_
   refine Be (q:=(decide (w1=[105,102]))&&(decide (ww=[101,108,115,101]))) (by kernel_rfl) (fun c4=>?_) (fun c4=>?_)
   ·try simp only[Ao] at c4
    refine Ab ?_
    refine Ar ?_
    refine Bm 1 0 [] [0,2,6,89] [] hk0 v0 c0 ?_
    refine Dy [0] (al:=[(.ptr 0 0)]) (al':=[(.ptr 0 0)]) (r:=(.tup [])) (r':=(.tup [])) (s':=[(0,(.ptr 0 0)),(2,(.ptr 1 0)),(6,(.ptr 4 0)),(89,(.ptr 0 0)),(90,(.tup []))]) (H:=[(0,(.row [(.str tt),(.str ww)] 158))]) (H':=[(0,(.row [(.str ((Ad tt).2)),(.str ((Ad tt).1))] 158))]) (h2:=[(0,(.row [(.str ((Ad tt).2)),(.str ((Ad tt).1))] 158)),(1,(.row [(.int .i64 0),(.str []),(.int .i64 0),(.str []),.nils] 67)),(3,(.grow (l.map Am) 67 5)),(4,(.row [(.int .i64 (A6 Bf w1 0)),(.str []),(.int .i64 0),(.str []),(.own 3)] 67))]) (by kernel_rfl) (by exact L5) (by kernel_rfl) (by kernel_rfl) (by kernel_rfl) (by kernel_rfl) (by kernel_rfl) (Mx tt ww (by omega)) (by kernel_rfl) (by kernel_rfl) (by kernel_rfl) ?_
    refine Bo ?_
    refine Pj (Cc n ((Ad tt).2) ((Ad tt).1)) (fun hz7=>?_) (fun⟨d1,t2,w2⟩ hz7=>?_)
    ·refine Q2z (by kernel_rfl) ?_
     refine Qw 0 ?_
     refine Qw 2 ?_
     refine Q2v 1 3 (by kernel_rfl) rfl rfl ?_ ?_
     ·refine Ez [] [93] ?_
      refine Q2w 3 (by kernel_rfl) rfl ?_
      exact Ga [0] (by exact Fy) ((ih ((Ad tt).2) ((Ad tt).1) (by omega)).no hz7) (fun _ _=>show Cd=Cd∧Cc (n+1) t w=none from ⟨rfl,by rw[hq2,Q02 c4 hz7];rfl⟩)
     ·exact Ga [0] (by exact Fy) ((ih ((Ad tt).2) ((Ad tt).1) (by omega)).no hz7) (fun _ _=>show Cd=Cd∧Cc (n+1) t w=none from ⟨rfl,by rw[hq2,Q02 c4 hz7];rfl⟩)
    ·have hle2:=Sf hz7
     have hq3:=hq2.trans (by rw[X2v c4 hz7])
     refine Iz (by kernel_rfl) (fun F2 hF2=>?_)
     refine B5 false 3 (lsD 8 [0,1,2,3,4]) ⟨[(0,(.ptr 0 0)),(2,(.ptr 1 0)),(6,(.ptr 4 0)),(92,(.own 3)),(95,(.sl 5 0 1 1 false))],[(0,(.row [(.str t2),(.str w2)] 158)),(1,(.row [(.int .i64 0),(.str []),(.int .i64 0),(.str []),.nils] 67)),(3,(.grow (l.map Am) 67 5)),(4,(.row [(.int .i64 (A6 Bf w1 0)),(.str []),(.int .i64 0),(.str []),(.own 3)] 67)),(5,(.row [(.int .i64 d1.kind),(.str d1.name),(.int .i64 d1.op),(.str d1.evr),(.row 5 d1.args.length (depAt d1.args))] 67))],6⟩ ?_ (fun m2_1=>?_)
     ·refine Cq (fuel:=2) 5 [] (hold (p:=(((l.map Am).length+1)*72≤140737488355328)) (by first|omega|(simp;omega)|(simp;done)|(intros;simp_all;omega)|(intros;simp_all;done))) ?_
      refine Ck (fuel:=1) [] [6] [0,2,6,96,97] Av ?_
      refine Cq (fuel:=0) 7 [] Av ?_
      refine As [0,2,6] ?_
      refine Hd (by kernel_rfl) ?_
      refine Ab ?_
      refine Ar ?_
      refine Bm 1 0 [] [2,6,98] [] hk0 v0 c0 ?_
      refine Dy [0] (al:=[(.ptr 0 0)]) (al':=[(.ptr 0 0)]) (r:=(.str w2)) (r':=(.str w2)) (s':=[(2,(.ptr 1 0)),(6,(.ptr 4 0)),(98,(.ptr 0 0)),(99,(.str w2))]) (H:=[(0,(.row [(.str t2),(.str w2)] 158))]) (H':=[(0,(.row [(.str ((Ad t2).2)),(.str ((Ad t2).1))] 158))]) (h2:=[(0,(.row [(.str ((Ad t2).2)),(.str ((Ad t2).1))] 158)),(1,(.row [(.int .i64 0),(.str []),(.int .i64 0),(.str []),.nils] 67)),(3,(.grow ((l.map Am)++([(.agg [(.int .i64 d1.kind),(.str d1.name),(.int .i64 d1.op),(.str d1.evr),(.row 5 d1.args.length (depAt d1.args))])]:List AV)) 67 5)),(4,(.row [(.int .i64 (A6 Bf w1 0)),(.str []),(.int .i64 0),(.str []),(.own 3)] 67)),(5,(.row [(.int .i64 d1.kind),(.str d1.name),(.int .i64 d1.op),(.str d1.evr),(.row 5 d1.args.length (depAt d1.args))] 67))]) (by kernel_rfl) (by exact Np) (by kernel_rfl) (by kernel_rfl) (by kernel_rfl) (by kernel_rfl) (by kernel_rfl) (On t2 w2 (by omega)) (by kernel_rfl) (by kernel_rfl) (by kernel_rfl) ?_
      refine Bm 1 2 [] [2,6,100] [] hk0 v0 c0 ?_
      refine Hy (decide (w2=[41])) (fun hz8=>?_) (fun hz8=>Ga [] (by exact E9) (Kc (decide (w2=[41])) hz8) (fun _ _=>show Cd=Cd∧Cc (n+1) t w=none from ⟨rfl,by rw[hq3,Jf,if_neg (by simpa using hz8)]⟩))
      have hcl:=hz8
      refine Jt (s':=[(2,(.ptr 1 0)),(6,(.ptr 4 0)),(100,(.bool (decide (w2=[41])))),(101,(.tup []))]) (al:=[(.bool (decide (w2=[41])))]) (r:=(.tup [])) (by kernel_rfl) (by exact E9) (by kernel_rfl) (by kernel_rfl) (Kb (decide (w2=[41])) hz8) (by kernel_rfl) ?_
      refine Bo ?_
      refine Ab ?_
      refine Ar ?_
      refine Bm 0 0 [] [2,6] [] hk0 v0 c0 ?_
      refine H1 4 4 (y:=⟨[(2,(.ptr 1 0)),(6,(.ptr 4 0))],[(0,(.row [(.str ((Ad t2).2)),(.str ((Ad t2).1))] 158)),(1,(.row [(.int .i64 0),(.str []),(.int .i64 0),(.str []),.nils] 67)),(4,(.row [(.int .i64 (A6 Bf w1 0)),(.str []),(.int .i64 0),(.str []),(.row 5 ((l.map Am)++([(.agg [(.int .i64 d1.kind),(.str d1.name),(.int .i64 d1.op),(.str d1.evr),(.row 5 d1.args.length (depAt d1.args))])]:List AV)).length (fun ix=>((l.map Am)++([(.agg [(.int .i64 d1.kind),(.str d1.name),(.int .i64 d1.op),(.str d1.evr),(.row 5 d1.args.length (depAt d1.args))])]:List AV)).getD ix Bl))] 67)),(5,(.row [(.int .i64 d1.kind),(.str d1.name),(.int .i64 d1.op),(.str d1.evr),(.row 5 d1.args.length (depAt d1.args))] 67))],6⟩) (by kernel_rfl) ?_
      refine Aw 0 [] [2] [] hk0 (vk 1 102 (a:=(.agg [(.int .i64 (A6 Bf w1 0)),(.str []),(.int .i64 0),(.str []),(.row 5 ((l.map Am)++([(.agg [(.int .i64 d1.kind),(.str d1.name),(.int .i64 d1.op),(.str d1.evr),(.row 5 d1.args.length (depAt d1.args))])]:List AV)).length (fun ix=>((l.map Am)++([(.agg [(.int .i64 d1.kind),(.str d1.name),(.int .i64 d1.op),(.str d1.evr),(.row 5 d1.args.length (depAt d1.args))])]:List AV)).getD ix Bl))])) (b:=(.agg [(.int .i64 ((DepT.mk (A6 Bf w1 0) [] 0 [] (l++[d1])).kind)),(.str ((DepT.mk (A6 Bf w1 0) [] 0 [] (l++[d1])).name)),(.int .i64 ((DepT.mk (A6 Bf w1 0) [] 0 [] (l++[d1])).op)),(.str ((DepT.mk (A6 Bf w1 0) [] 0 [] (l++[d1])).evr)),(.row 5 (DepT.mk (A6 Bf w1 0) [] 0 [] (l++[d1])).args.length (depAt (DepT.mk (A6 Bf w1 0) [] 0 [] (l++[d1])).args))])) (Imp.agg (p:=[.int .i64 (A6 Bf w1 0),.str [],.int .i64 0,.str []]) (X4f l d1))<|v0) c0 ?_
      refine Ac ?_
      refine O5 (ch:=Cd) (DepT.mk (A6 Bf w1 0) [] 0 [] (l++[d1]),(Ad t2).2,(Ad t2).1) ?_ wR (al:=[(.agg [(.int .i64 ((DepT.mk (A6 Bf w1 0) [] 0 [] (l++[d1])).kind)),(.str ((DepT.mk (A6 Bf w1 0) [] 0 [] (l++[d1])).name)),(.int .i64 ((DepT.mk (A6 Bf w1 0) [] 0 [] (l++[d1])).op)),(.str ((DepT.mk (A6 Bf w1 0) [] 0 [] (l++[d1])).evr)),(.row 5 (DepT.mk (A6 Bf w1 0) [] 0 [] (l++[d1])).args.length (depAt (DepT.mk (A6 Bf w1 0) [] 0 [] (l++[d1])).args))])]) (by kernel_rfl) ?_ ((by kernel_rfl:Cj 1 _=some [(0,(.row [(.str ((Ad t2).2)),(.str ((Ad t2).1))] 158))]).trans ?_)
      ·rw[hq3,Jf,if_pos (by simpa using hcl)]
      ·rfl
      ·rfl
     refine B5 false 4 (lsD 8 [0,1,2,3]) ⟨[(0,(.ptr 0 0)),(2,(.ptr 1 0)),(6,(.ptr 4 0)),(92,(.own 3)),(94,(.agg [(.int .i64 d1.kind),(.str d1.name),(.int .i64 d1.op),(.str d1.evr),(.row 5 d1.args.length (depAt d1.args))]))],[(0,(.row [(.str t2),(.str w2)] 158)),(1,(.row [(.int .i64 0),(.str []),(.int .i64 0),(.str []),.nils] 67)),(3,(.grow (l.map Am) 67 5)),(4,(.row [(.int .i64 (A6 Bf w1 0)),(.str []),(.int .i64 0),(.str []),(.own 3)] 67))],5⟩ ?_ (fun m2_2=>?_)
     ·refine Cq (fuel:=3) 4 [] Av ?_
      refine As [0,2,6,92,95] ?_
      exact A0 m2_1
     refine Ck (fuel:=6) [] [0,2] [0,2,6,91,93] Av ?_
     refine Ca 1 3 (by kernel_rfl) ?_ ?_
     ·refine A2 (fuel:=5) 1 [] Av ?_
      refine As [0,2,6,92,93] ?_
      refine Ep (fuel:=4) 3 (by kernel_rfl) ?_
      refine Cf (fuel:=4) 3 rfl ?_
      refine Dy [0] (al:=[(.ptr 0 0)]) (al':=[(.ptr 0 0)]) (r:=(.agg [(.int .i64 d1.kind),(.str d1.name),(.int .i64 d1.op),(.str d1.evr),(.row 5 d1.args.length (depAt d1.args))])) (r':=(.agg [(.int .i64 d1.kind),(.str d1.name),(.int .i64 d1.op),(.str d1.evr),(.row 5 d1.args.length (depAt d1.args))])) (s':=[(0,(.ptr 0 0)),(2,(.ptr 1 0)),(6,(.ptr 4 0)),(92,(.own 3)),(93,(.ptr 0 0)),(94,(.agg [(.int .i64 d1.kind),(.str d1.name),(.int .i64 d1.op),(.str d1.evr),(.row 5 d1.args.length (depAt d1.args))]))]) (H:=[(0,(.row [(.str ((Ad tt).2)),(.str ((Ad tt).1))] 158))]) (H':=[(0,(.row [(.str t2),(.str w2)] 158))]) (h2:=[(0,(.row [(.str t2),(.str w2)] 158)),(1,(.row [(.int .i64 0),(.str []),(.int .i64 0),(.str []),.nils] 67)),(3,(.grow (l.map Am) 67 5)),(4,(.row [(.int .i64 (A6 Bf w1 0)),(.str []),(.int .i64 0),(.str []),(.own 3)] 67))]) (by kernel_rfl) (by exact Fy) (by kernel_rfl) (by kernel_rfl) (by kernel_rfl) (by kernel_rfl) (by kernel_rfl) ((ih ((Ad tt).2) ((Ad tt).1) (by omega)).yes hz7) (by kernel_rfl) (by kernel_rfl) (by kernel_rfl) ?_
      refine Bo ⟨rfl,?_⟩
      refine As [0,2,6,92,94] ?_
      exact A0 m2_2
     ·refine Cf (fuel:=5) 3 rfl ?_
      refine Dy [0] (al:=[(.ptr 0 0)]) (al':=[(.ptr 0 0)]) (r:=(.agg [(.int .i64 d1.kind),(.str d1.name),(.int .i64 d1.op),(.str d1.evr),(.row 5 d1.args.length (depAt d1.args))])) (r':=(.agg [(.int .i64 d1.kind),(.str d1.name),(.int .i64 d1.op),(.str d1.evr),(.row 5 d1.args.length (depAt d1.args))])) (s':=[(0,(.ptr 0 0)),(2,(.ptr 1 0)),(6,(.ptr 4 0)),(91,(.ptr 4 4)),(93,(.ptr 0 0)),(94,(.agg [(.int .i64 d1.kind),(.str d1.name),(.int .i64 d1.op),(.str d1.evr),(.row 5 d1.args.length (depAt d1.args))]))]) (H:=[(0,(.row [(.str ((Ad tt).2)),(.str ((Ad tt).1))] 158))]) (H':=[(0,(.row [(.str t2),(.str w2)] 158))]) (h2:=[(0,(.row [(.str t2),(.str w2)] 158)),(1,(.row [(.int .i64 0),(.str []),(.int .i64 0),(.str []),.nils] 67)),(3,(.grow (l.map Am) 67 5)),(4,(.row [(.int .i64 (A6 Bf w1 0)),(.str []),(.int .i64 0),(.str []),(.own 3)] 67))]) (by kernel_rfl) (by exact Fy) (by kernel_rfl) (by kernel_rfl) (by kernel_rfl) (by kernel_rfl) (by kernel_rfl) ((ih ((Ad tt).2) ((Ad tt).1) (by omega)).yes hz7) (by kernel_rfl) (by kernel_rfl) (by kernel_rfl) ?_
      refine Bo ⟨rfl,?_⟩
      refine As [0,2,6,91,94] ?_
      refine Ca 1 4 (by kernel_rfl) ?_ ?_
      ·refine A2 (fuel:=4) 1 [] Av ?_
       refine As [0,2,6,92,94] ?_
       exact A0 m2_2
      ·refine A2 (fuel:=4) 4 [] Av ?_
       refine As [0,2,6,91,95] ?_
       refine Cq (fuel:=3) 1 [] Av ?_
       refine As [0,2,6,92,95] ?_
       exact A0 m2_1
   ·try simp only[Ao] at c4
    have hq3:=hq2.trans (by rw[X2w c4])
    refine Ah ?_
    refine Ab ?_
    refine Ar ?_
    refine Bm 1 0 [] [2,6,98] [] hk0 v0 c0 ?_
    refine Dy [0] (al:=[(.ptr 0 0)]) (al':=[(.ptr 0 0)]) (r:=(.str ww)) (r':=(.str ww)) (s':=[(2,(.ptr 1 0)),(6,(.ptr 4 0)),(98,(.ptr 0 0)),(99,(.str ww))]) (H:=[(0,(.row [(.str tt),(.str ww)] 158))]) (H':=[(0,(.row [(.str ((Ad tt).2)),(.str ((Ad tt).1))] 158))]) (h2:=[(0,(.row [(.str ((Ad tt).2)),(.str ((Ad tt).1))] 158)),(1,(.row [(.int .i64 0),(.str []),(.int .i64 0),(.str []),.nils] 67)),(3,(.grow (l.map Am) 67 5)),(4,(.row [(.int .i64 (A6 Bf w1 0)),(.str []),(.int .i64 0),(.str []),(.own 3)] 67))]) (by kernel_rfl) (by exact Np) (by kernel_rfl) (by kernel_rfl) (by kernel_rfl) (by kernel_rfl) (by kernel_rfl) (On tt ww (by omega)) (by kernel_rfl) (by kernel_rfl) (by kernel_rfl) ?_
    refine Bm 1 2 [] [2,6,100] [] hk0 v0 c0 ?_
    refine Hy (decide (ww=[41])) (fun hz9=>?_) (fun hz9=>Ga [] (by exact E9) (Kc (decide (ww=[41])) hz9) (fun _ _=>show Cd=Cd∧Cc (n+1) t w=none from ⟨rfl,by rw[hq3,Jf,if_neg (by simpa using hz9)]⟩))
    have hcl:=hz9
    refine Jt (s':=[(2,(.ptr 1 0)),(6,(.ptr 4 0)),(100,(.bool (decide (ww=[41])))),(101,(.tup []))]) (al:=[(.bool (decide (ww=[41])))]) (r:=(.tup [])) (by kernel_rfl) (by exact E9) (by kernel_rfl) (by kernel_rfl) (Kb (decide (ww=[41])) hz9) (by kernel_rfl) ?_
    refine Bo ?_
    refine Ab ?_
    refine Ar ?_
    refine Bm 0 0 [] [2,6] [] hk0 v0 c0 ?_
    refine H1 4 4 (y:=⟨[(2,(.ptr 1 0)),(6,(.ptr 4 0))],[(0,(.row [(.str ((Ad tt).2)),(.str ((Ad tt).1))] 158)),(1,(.row [(.int .i64 0),(.str []),(.int .i64 0),(.str []),.nils] 67)),(4,(.row [(.int .i64 (A6 Bf w1 0)),(.str []),(.int .i64 0),(.str []),(.row 5 (l.map Am).length (fun ix=>(l.map Am).getD ix Bl))] 67))],5⟩) (by kernel_rfl) ?_
    refine Aw 0 [] [2] [] hk0 (vk 1 102 (a:=(.agg [(.int .i64 (A6 Bf w1 0)),(.str []),(.int .i64 0),(.str []),(.row 5 (l.map Am).length (fun ix=>(l.map Am).getD ix Bl))])) (b:=(.agg [(.int .i64 ((DepT.mk (A6 Bf w1 0) [] 0 [] l).kind)),(.str ((DepT.mk (A6 Bf w1 0) [] 0 [] l).name)),(.int .i64 ((DepT.mk (A6 Bf w1 0) [] 0 [] l).op)),(.str ((DepT.mk (A6 Bf w1 0) [] 0 [] l).evr)),(.row 5 (DepT.mk (A6 Bf w1 0) [] 0 [] l).args.length (depAt (DepT.mk (A6 Bf w1 0) [] 0 [] l).args))])) (Imp.agg (p:=[.int .i64 (A6 Bf w1 0),.str [],.int .i64 0,.str []]) ((Imp.list (f:=Am) (List.length_map Am)).trans (Jj l)))<|v0) c0 ?_
    refine Ac ?_
    refine O5 (ch:=Cd) (DepT.mk (A6 Bf w1 0) [] 0 [] l,(Ad tt).2,(Ad tt).1) ?_ wR (al:=[(.agg [(.int .i64 ((DepT.mk (A6 Bf w1 0) [] 0 [] l).kind)),(.str ((DepT.mk (A6 Bf w1 0) [] 0 [] l).name)),(.int .i64 ((DepT.mk (A6 Bf w1 0) [] 0 [] l).op)),(.str ((DepT.mk (A6 Bf w1 0) [] 0 [] l).evr)),(.row 5 (DepT.mk (A6 Bf w1 0) [] 0 [] l).args.length (depAt (DepT.mk (A6 Bf w1 0) [] 0 [] l).args))])]) (by kernel_rfl) ?_ ((by kernel_rfl:Cj 1 _=some [(0,(.row [(.str ((Ad tt).2)),(.str ((Ad tt).1))] 158))]).trans ?_)
    ·rw[hq3,Jf,if_pos (by simpa using hcl)]
    ·rfl
    ·rfl
theorem Sg:∀(n:Nat) (t w:List UInt8),t.length+w.length < n→n≤8388608→CallZ Tryz.prog Cd 119 [.ptr 0 0] [(0,.row [.str t,.str w] 158)] 1 (Cc n t w) (fun a=>Am a.1) (fun a=>[(0,.row [.str a.2.1,.str a.2.2] 158)])
 |0,t,w,h,_=>by omega
 |n+1,t,w,h,k=>Q7h n t w h (by omega) fun t w h=>Sg n t w h (by omega)
end Sv
end
section
open Go Go.RowKit
namespace Sv
set_option maxHeartbeats 400000
set_option maxRecDepth 100000
def zeroQ:DepT:=.mk 0 [] 0 [] []
def J7 (d:DepT) (w:List UInt8):DepT × Int:=if w=[] then (if Bt d=0 then (d,0) else (zeroQ,Bt d)) else (zeroQ,50)
def Bi (s:List UInt8):DepT × Int:=match Cc (s.length+2) (Ad s).2 (Ad s).1 with
 |none=>(zeroQ,50)
 |some (d,_,w)=>J7 d w
theorem U1:Imp (.agg [.int .i64 0,.str [],.int .i64 0,.str [],.nils]) (Am zeroQ):=Imp.agg (p:=[.int .i64 0,.str [],.int .i64 0,.str []]) (Imp.nil.trans (Jj []))
theorem Q3k {φ:Phi}:VR φ (Am zeroQ) (.agg #[.int .i64 0,S [],.int .i64 0,S [],.slice none 0 0]):=U1 _ _ (by
 simp only[VR]
 exact⟨_,.cons (by simp only[VR]) (.cons (by simp only[VR]) (.cons (by simp only[VR]) (.cons (by simp only[VR]) (.single (by simp only[VR]))))),rfl⟩)
def Wg (P:Program) (s:List UInt8):Exit→St→Prop
 |.panic c,y=>c=Cd∧Bi s=(zeroQ,50)∧A5 0 y.h=some (.row [.int .i64 0,.str [],.int .i64 0,.str [],.nils] 67)∧A5 1 y.h=some (.row [.int .i64 0] 31)∧B2 2 y.s=some (.ptr 0 0)∧B2 3 y.s=some (.ptr 1 0)
 |e,y=>La P [.cell 2 67,.cell 3 31] (.tup [Am (Bi s).1,.int .i64 (Bi s).2]) e y
theorem W4 {P : Program} {s : List UInt8} {ks : List Nat} {x : St} {h2 : AH} (hq : Bi s = (zeroQ, 50)) (e : Gi ks [] x.h = some h2) (g0 : (Gi ks [] x.h).bind (A5 0) = some (.row [.int .i64 0, .str [], .int .i64 0, .str [], .nils] 67)) (g1 : (Gi ks [] x.h).bind (A5 1) = some (.row [.int .i64 0] 31))
  (l2:B2 2 (H3 ks x.s)=some (.ptr 0 0)) (l3:B2 3 (H3 ks x.s)=some (.ptr 1 0)):Wg P s (.panic Cd) ⟨H3 ks x.s,h2,x.nx⟩:=by
 rw[e] at g0 g1
 exact⟨rfl,hq,g0,g1,l2,l3⟩
theorem W1 {s:List UInt8} {d:DepT} {t w:List UInt8} (h:Cc (s.length+2) (Ad s).2 (Ad s).1=some (d,t,w)):d.size≤2*s.length:=by
 have h1:=(Mv _ _ _ _ h).2.1
 have h2:=E7 s
 simp only at h1
 omega
attribute [local irreducible] SW SO SWD Bh
set_option maxHeartbeats 1000000 in
set_option maxRecDepth 100000 in
theorem X68 (s:List UInt8) (hs:s.length≤1048576):FnV Tryz.prog 72 [.str s] (.tup [Am (Bi s).1,.int .i64 (Bi s).2]):=by
 intro F w vs hF hv
 obtain⟨v,rfl,hv1⟩:=hv.single_inv
 simp only[VR] at hv1;subst hv1
 have hx:Holds ⟨w,fun k=>k < w.heap.size,fun _ h=>h⟩ ⟨F,fun _=>none,0,fun _ _ e=>by cases e⟩ 28 ⟨Ex 0 [.str s],[],0⟩ (ofF F) (Dv [S s]) w:=by
  refine⟨fun t a e=>?_,⟨⟨rfl,rfl,rfl,Nat.le_refl _,fun _ _=>rfl⟩,hF,fun b o e=>(by cases e),fun b b' o o' k e=>(by cases e),fun b o k e=>(by cases e)⟩,fun b _=>⟨rfl,rfl⟩,fun b o e=>e,fun b o e => .inl e,fun b o e=>(by cases e)⟩
  obtain⟨h1,h2,h3⟩:=Jb hv e
  rw[Nat.sub_zero] at h2 h3
  have ht:Nat.blt t 28=true:=by simp only[Nat.blt_eq];simp at h3;omega
  simp only[sl,ht,cond_true,Dv];exact h2
 refine calls_of_wp_defers Tryz.func72 rfl ?_
 rw[show({ tmps := #[S s]++Array.replicate (Tryz.f72.ntmps - #[S s].size) undef,defers:=[] }:Act)=mk 28 (Dv [S s]) from by rw[Tryz.ntmps72];kernel_rfl]
 refine X45 ?_
 refine W_mono (X54 (K:=fun e y=>e = .normal∧y=⟨[(0,.str s),(2,.ptr 0 0),(3,.ptr 1 0)],[(0,(.row [(.int .i64 0),(.str []),(.int .i64 0),(.str []),.nils] 67)),(1,(.row [(.int .i64 0)] 31))],2⟩) ?_ hx) ?_
 ·refine Ar ?_
  refine Aw 0 [] [0,2,3] [] hk0 v0 c0 ?_
  exact⟨rfl,by kernel_rfl⟩
 rintro e σ1 w1 ⟨y,φ1,hy,rfl,rfl⟩
 have a2:=hy.fr 2 (.ptr 0 0) rfl
 have a3:=hy.fr 3 (.ptr 1 0) rfl
 simp only[VR] at a2 a3
 obtain⟨p,κp,ep,a2⟩:=a2
 obtain⟨q,κq,eq,a3⟩:=a3
 have hf:=hy.fr.put (dst:=some 7) (a:=.raw (.func (.func 117) #[] #[(.pointer (some ⟨p,0,none⟩)),(.pointer (some ⟨q,0,none⟩))])) (s':=[(0,.str s),(2,.ptr 0 0),(3,.ptr 1 0),(7,.raw (.func (.func 117) #[] #[(.pointer (some ⟨p,0,none⟩)),(.pointer (some ⟨q,0,none⟩))]))]) (v:=(.func (.func 117) #[] #[(.pointer (some ⟨p,0,none⟩)),(.pointer (some ⟨q,0,none⟩))])) (by kernel_rfl) (by simp only[VR])
 have hcm:∀b x,(if b < 2 then φ1 b else none)=some x→b < 2:=by
  intro b x e
  by_cases hb:b < 2
  ·exact hb
  ·rw[if_neg hb] at e;cases e
 have hy1:Holds ⟨w,fun k=>k < w.heap.size,fun _ h=>h⟩ ⟨F,fun b=>if b < 2 then φ1 b else none,2,hcm⟩ 28 ⟨[(0,.str s),(2,.ptr 0 0),(3,.ptr 1 0)],[(0,(.row [(.int .i64 0),(.str []),(.int .i64 0),(.str []),.nils] 67)),(1,(.row [(.int .i64 0)] 31))],2⟩ φ1 _ w1:=⟨fun t a e=>hf t a (Sw (ts:=[0,2,3]) rfl t a e),hy.rel,hy.dom,hy.old,hy.new,fun b x e=>by
  have e:(if b < 2 then φ1 b else none)=some x:=e
  by_cases hb:b < 2
  ·rwa [if_pos hb] at e
  ·rw[if_neg hb] at e;cases e⟩
 refine D.wp_defer (v:=(.func (.func 117) #[] #[(.pointer (some ⟨p,0,none⟩)),(.pointer (some ⟨q,0,none⟩))])) (d:={ target:=.fn (.func 117) #[(.pointer (some ⟨p,0,none⟩)),(.pointer (some ⟨q,0,none⟩))],args := #[] }) rfl (X28 a2 a3) (X29 (by omega)) ?_
 refine D.W_any ?_
 refine D.W_mono (Q:=D4 _ _ 28 (Wg Tryz.prog s)) (X7k hy1 ?_) ?_
 ·have hF':(⟨F,fun b=>if b < 2 then φ1 b else none,2,hcm⟩:Cx).lo=2:=rfl
  have hN:=E7 s
  refine I0 ?_
  refine Jv ?_
  refine Ez [] [2,3,4] ?_
  refine I0 ?_
  refine Jv ?_
  refine Bm 1 0 [] [2,3,4,11] [] hk0 v0 c0 ?_
  refine Dy [2] (al:=[(.ptr 2 0)]) (al':=[(.ptr 0 0)]) (r:=(.tup [])) (r':=(.tup [])) (s':=[(2,(.ptr 0 0)),(3,(.ptr 1 0)),(4,(.ptr 2 0)),(11,(.ptr 2 0)),(12,(.tup []))]) (H:=[(0,(.row [(.str s),(.str [])] 158))]) (H':=[(0,(.row [(.str ((Ad s).2)),(.str ((Ad s).1))] 158))]) (h2:=[(0,(.row [(.int .i64 0),(.str []),(.int .i64 0),(.str []),.nils] 67)),(1,(.row [(.int .i64 0)] 31)),(2,(.row [(.str ((Ad s).2)),(.str ((Ad s).1))] 158))]) (by kernel_rfl) (by exact L5) (by kernel_rfl) (by kernel_rfl) (by kernel_rfl) (by kernel_rfl) (by kernel_rfl) (Mx s [] (by omega)) (by kernel_rfl) (by kernel_rfl) (by kernel_rfl) ?_
  refine Bo ?_
  refine I0 ?_
  refine Jv ?_
  refine Bm 1 0 [] [2,3,4,13] [] hk0 v0 c0 ?_
  refine Pj (Cc (s.length+2) (Ad s).2 (Ad s).1) (fun hz1=>Ga [2] (by exact Fy) ((Sg (s.length+2) (Ad s).2 (Ad s).1 (by omega) (by omega)).no hz1) (fun h2 e2=>W4 (P:=Tryz.prog) (by unfold Bi;rw[hz1]) e2 (by kernel_rfl) (by kernel_rfl) (by kernel_rfl) (by kernel_rfl))) (fun⟨d0,t1,w1⟩ hz1=>?_)
  have hsz:=W1 hz1
  have hpq:Bi s=J7 d0 w1:=by unfold Bi;rw[hz1]
  refine Dy [2] (al:=[(.ptr 2 0)]) (al':=[(.ptr 0 0)]) (r:=(.agg [(.int .i64 d0.kind),(.str d0.name),(.int .i64 d0.op),(.str d0.evr),(.row 5 d0.args.length (depAt d0.args))])) (r':=(.agg [(.int .i64 d0.kind),(.str d0.name),(.int .i64 d0.op),(.str d0.evr),(.row 5 d0.args.length (depAt d0.args))])) (s':=[(2,(.ptr 0 0)),(3,(.ptr 1 0)),(4,(.ptr 2 0)),(13,(.ptr 2 0)),(14,(.agg [(.int .i64 d0.kind),(.str d0.name),(.int .i64 d0.op),(.str d0.evr),(.row 5 d0.args.length (depAt d0.args))]))]) (H:=[(0,(.row [(.str ((Ad s).2)),(.str ((Ad s).1))] 158))]) (H':=[(0,(.row [(.str t1),(.str w1)] 158))]) (h2:=[(0,(.row [(.int .i64 0),(.str []),(.int .i64 0),(.str []),.nils] 67)),(1,(.row [(.int .i64 0)] 31)),(2,(.row [(.str t1),(.str w1)] 158))]) (by kernel_rfl) (by exact Fy) (by kernel_rfl) (by kernel_rfl) (by kernel_rfl) (by kernel_rfl) (by kernel_rfl) ((Sg (s.length+2) (Ad s).2 (Ad s).1 (by omega) (by omega)).yes hz1) (by kernel_rfl) (by kernel_rfl) (by kernel_rfl) ?_
  refine Aw 2 [] [2,3,4,5] [] hk0 v0 c0 ?_
  refine I0 ?_
  refine Jv ?_
  refine Bm 5 0 [] [2,3,5,19] [(0,5)] hk0 v0 c0 ?_
  refine Hy (decide (w1=[])) (fun hz2=>?_) (fun hz2=>Ga [] (by exact E9) (Kc (decide (w1=[])) hz2) (fun h2 e2=>W4 (P:=Tryz.prog) (by rw[hpq,J7,if_neg (by simpa using hz2)]) e2 (by kernel_rfl) (by kernel_rfl) (by kernel_rfl) (by kernel_rfl)))
  have hpw:w1=[]:=by simpa using hz2
  refine Jt (s':=[(2,(.ptr 0 0)),(3,(.ptr 1 0)),(5,(.fp (.agg [(.int .i64 d0.kind),(.str d0.name),(.int .i64 d0.op),(.str d0.evr),(.row 5 d0.args.length (depAt d0.args))]))),(19,(.bool (decide (w1=[])))),(20,(.tup []))]) (al:=[(.bool (decide (w1=[])))]) (r:=(.tup [])) (by kernel_rfl) (by exact E9) (by kernel_rfl) (by kernel_rfl) (Kb (decide (w1=[])) hz2) (by kernel_rfl) ?_
  refine Bo ?_
  refine I0 ?_
  refine I0 ?_
  refine Jv ?_
  refine Aw 0 [] [2,3,5,6] [] (hk 1 Nr (Ra d0 (by omega))<|hk0) v0 c0 ?_
  refine I0 ?_
  refine Jv ?_
  refine Ez [] [2,3,5,6,24] ?_
  refine X7j (p:=(Bt d0)=0) (by kernel_rfl) (fun c1=>?_) (fun c1=>?_)
  ·refine I0 ?_
   refine Jv ?_
   refine Ez [] [2,3] ?_
   refine Q3g ?_
   refine RK wR [(.agg [(.int .i64 0),(.str []),(.int .i64 0),(.str []),.nils]),(.int .i64 (Bt d0))] ?_
   rw[show Bi s=(zeroQ,Bt d0) from by rw[hpq,J7,if_pos hpw,if_neg (by simpa using c1)]]
   exact(Imp.tups (ImpL.cons U1 (ImpL.cons Imp.refl ImpL.nil))).same
  ·refine X7i ?_
   refine I0 ?_
   refine Jv ?_
   refine Ez [] [2,3] ?_
   refine Q3g ?_
   refine RK wR [(.agg [(.int .i64 d0.kind),(.str d0.name),(.int .i64 d0.op),(.str d0.evr),(.row 5 d0.args.length (depAt d0.args))]),(.int .i64 0)] ?_
   rw[show Bi s=(d0,0) from by rw[hpq,J7,if_pos hpw,if_pos (by simpa using c1)]]
   exact Same.of_eq rfl
 ·rintro e σ2 w2 ⟨y,φ2,hy2,he⟩
  have fin:(e = .ret∨e = .normal)→La Tryz.prog [.cell 2 67,.cell 3 31] (.tup [Am (Bi s).1,.int .i64 (Bi s).2]) e y→Leaves Tryz.prog Tryz.f72 (D.mk [{ target:=.fn (.func 117) #[(.pointer (some ⟨p,0,none⟩)),(.pointer (some ⟨q,0,none⟩))],args := #[] }] 28 σ2).tmps (Ret fun v w''=>Below w.heap.size w w''∧∃F',(∀b o,F b=some o→F' b=some o)∧Fro F' w''∧(∀b o,F' b=some o→F b=some o∨w.heap.size≤b)∧VR (ofF F') (.tup [Am (Bi s).1,.int .i64 (Bi s).2]) v) [{ target:=.fn (.func 117) #[(.pointer (some ⟨p,0,none⟩)),(.pointer (some ⟨q,0,none⟩))],args := #[] }] .returning w2:=by
   rintro _ ⟨_,al',rl,h',k1,k2,k3⟩
   refine leaves_cons (f:=117) (args := #[(.pointer (some ⟨p,0,none⟩)),(.pointer (some ⟨q,0,none⟩))]) (by simp) (by simp[go_sem]) ?_
   refine(X3q _ _ _).mono ?_
   rintro e u' w'' ⟨rfl,rfl,hb⟩
   have hrel:=hy2.rel.go (Phi.le_refl φ2) hb (fun b o e=>(hb.block b (C9 (hy2.rel.fro b o e))).trans (hy2.rel.fro b o e)) (fun b o e => .inl e)
   obtain⟨vs',hvs,hrun⟩:=I5 (P:=Tryz.prog) hy2.fr hrel k1
   obtain⟨F',f1,f2,f3,f4⟩:=frzVl_ok k2 _ φ2 w'' _ hrel hvs
   exact⟨_,J3 (a:=mk 28 σ2) rfl hrun,_,rfl,⟨hrel.below.os,hrel.below.tape,hrel.below.output,hrel.below.size,hrel.below.block⟩,F',fun b o q=>f1 b o (hy2.old b o q),f3.fro,fun b o q=>((f2 b o q).elim (hy2.new b o) .inr).imp id Nat.le_of_not_lt,k3 _ _ (Li f4)⟩
  cases e with
  |normal=>exact fin (.inr rfl) he
  |ret=>exact fin (.inl rfl) he
  |panic c =>
   obtain⟨rfl,hpq,g0,g1,l2,l3⟩:=he
   obtain⟨x0,κ0,vs0,e0,m0,l0⟩:=hy2.rel.obj 0 _ g0
   obtain⟨x1,κ1,vs1,e1,m1,l1⟩:=hy2.rel.obj 1 _ g1
   have b0:=hy2.base 0 _ ((if_pos (by omega):(if 0 < 2 then φ1 0 else none)=φ1 0).trans ep)
   have b1:=hy2.base 1 _ ((if_pos (by omega):(if 1 < 2 then φ1 1 else none)=φ1 1).trans eq)
   rw[b0] at e0;cases e0
   rw[b1] at e1;cases e1
   have s2:=hy2.fr 2 _ l2
   have s3:=hy2.fr 3 _ l3
   simp only[VR] at s2 s3
   obtain⟨p',_,ep',s2⟩:=s2
   obtain⟨q',_,eq',s3⟩:=s3
   rw[b0] at ep';cases ep'
   rw[b1] at eq';cases eq'
   have i0:img φ2 0 (.row [.int .i64 0,.str [],.int .i64 0,.str [],.nils] 67) p:=by simp only[img,b0];rfl
   have i1:img φ2 1 (.row [.int .i64 0] 31) q:=by simp only[img,b1];rfl
   have o0:=(hy2.rel.gf 0 _ p g0 i0).1
   have o1:=(hy2.rel.gf 1 _ q g1 i1).1
   have hpq2:p≠q:=fun e=>by subst e;have:=hy2.rel.sep 0 1 _ _ p g0 g1 i0 i1;omega
   obtain⟨y0,r0,q0,_,l0⟩:=l0.cons_inv
   obtain⟨y1,r1,q1,_,l0⟩:=l0.cons_inv
   obtain⟨y2,r2,q2,_,l0⟩:=l0.cons_inv
   obtain⟨y3,r3,q3,_,l0⟩:=l0.cons_inv
   obtain⟨y4,r4,q4,_,l0⟩:=l0.cons_inv
   obtain⟨z0,t0,u0,_,l1⟩:=l1.cons_inv
   have:=l0.nil_inv;subst this
   have:=l1.nil_inv;subst this
   have v0:vs0 = #[y0,y1,y2,y3,y4]:=by apply Array.ext';rw[q0,q1,q2,q3,q4]
   have v1:vs1 = #[z0]:=by apply Array.ext';rw[u0]
   rw[v0] at m0
   rw[v1] at m1
   refine leaves_cons (f:=117) (args := #[(.pointer (some ⟨p,0,none⟩)),(.pointer (some ⟨q,0,none⟩))]) (by simp) (by simp[go_sem]) ?_
   refine(X3p m0 m1 hpq2).mono ?_
   rintro e u' w'' ⟨rfl,rfl,hh1,hh2,hh3⟩
   have hb3:=hh3 w.heap.size (Nat.le_of_not_lt o0) (Nat.le_of_not_lt o1)
   have hbel:Below w.heap.size w w'':=Below.trans ⟨hy2.rel.below.os,hy2.rel.below.tape,hy2.rel.below.output,hy2.rel.below.size,hy2.rel.below.block⟩ hb3
   refine D.leaves_cc rfl s2 Tryz.underlying67 rfl (fun _=>by kernel_rfl) hh1 s3 Tryz.underlying31 rfl hh2 ⟨_,rfl,hbel,F,fun _ _ e=>e,fun b o e=>(hbel.block b (C9 (hF b o e))).trans (hF b o e),fun _ _ e => .inl e,?_⟩
   rw[hpq]
   simp only[VR]
   exact⟨_,.cons Q3k (.single (by simp only[VR])),rfl⟩
  |_=>obtain⟨he,_⟩:=he;rcases he with he|he<;>cases he
end Sv
end
section
open Go Go.RowKit
namespace Sv
set_option maxHeartbeats 400000 in
set_option maxRecDepth 100000 in
theorem X65 (k op : Int) (nm ev : List UInt8) (args : List DepT) (sv : Value) (css : List (List Value)) (w : World) (hr : RowIs w sv args.length 5 css.flatten) (ha : ArgsC w args css) (hs : argsSize args + 1 + nm.length + ev.length ≤ 4194304) (hchk : ∀ w1, Below w.heap.size w w1 → Calls Tryz.prog 121 #[.agg #[.int .i64 k, S nm, .int .i64 op, S ev, sv]] w1 (Ret fun v w' => v = .int .i64 (Bt (DepT.mk k nm op ev args)) ∧ Below w1.heap.size w1 w')) :
    Calls Tryz.prog 73 #[(.agg #[(.int .i64 (k)),(S (nm)),(.int .i64 (op)),(S (ev)),(sv)])] w (Ret fun v w'=>v = .tuple #[S (Ge (DepT.mk k nm op ev args)).1,.int .i64 (Ge (DepT.mk k nm op ev args)).2]∧Below w.heap.size w w'):=by
  have hd0:DepC w (DepT.mk k nm op ev args) [.int .i64 k,S nm,.int .i64 op,S ev,sv]:=X27 hr ha
  have hz0:(DepT.mk k nm op ev args).size≤4194304:=by unfold DepT.size;omega
  refine Dn Tryz.func73 rfl Tryz.ntmps73 ?_
  refine W_seq ?_
  refine W_reg ?_
  refine Uj (v:=(.agg #[(.int .i64 (k)),(S (nm)),(.int .i64 (op)),(S (ev)),(sv)])) rfl rfl (fun w1 n1=>?_)
  have e1:w1.heap[w.heap.size]? = some (.cells #[(.int .i64 (k)),(S (nm)),(.int .i64 (op)),(S (ev)),(sv)] 67 (0,0)):=n1.here
  have z1:=n1.size
  refine Au (v:=(S ([]))) rfl rfl ?_
  refine Au (v:=(.int .i64 (0))) rfl rfl ?_
  refine Bd ?_
  refine W_seq ?_
  refine W_seq ?_
  refine W_reg ?_
  refine Ku (b:=w.heap.size) (o:=0) (m:=5) (c := #[(.int .i64 (k)),(S (nm)),(.int .i64 (op)),(S (ev)),(sv)]) rfl rfl Tryz.underlying67 rfl (fun _=>by kernel_rfl) e1 (by simp) ?_
  refine Gq 6 (v':=(.agg #[(.int .i64 (k)),(S (nm)),(.int .i64 (op)),(S (ev)),(sv)])) rfl rfl ?_
  refine Ci rfl (by exact Nr) (hchk _ (n1.below (Below.refl w.heap.size w) (Below.refl w.heap.size w).size)) ?_
  rintro _ wk ⟨rfl,bk⟩
  have z_wk:=bk.size
  refine Au (v:=(.int .i64 (Bt (DepT.mk k nm op ev args)))) rfl rfl ?_
  refine Bd ?_
  refine W_seq ?_
  refine W_reg ?_
  refine Au (v:=(.int .i64 (Bt (DepT.mk k nm op ev args)))) rfl rfl ?_
  refine Au (v:=(.bool (!decide ((Bt (DepT.mk k nm op ev args))=0)))) rfl rfl ?_
  refine Bd ?_
  refine W_cond (t:=!decide ((Bt (DepT.mk k nm op ev args))=0)) rfl (fun c1=>?_) (fun c1=>?_)
  · skip
    refine W_seq ?_
    refine W_reg ?_
    refine Au (v:=(.int .i64 (Bt (DepT.mk k nm op ev args)))) rfl rfl ?_
    refine Au (v:=(S ([]))) rfl rfl ?_
    refine Au (v:=(.int .i64 (Bt (DepT.mk k nm op ev args)))) rfl rfl ?_
    refine Bd ?_
    refine W_ret ?_
    refine T8 rfl (v0:=(S ([]))) (v1:=(.int .i64 (Bt (DepT.mk k nm op ev args)))) rfl rfl ?_
    have hbel:=(Cp (n1.below (Below.refl w.heap.size w) (Below.refl w.heap.size w).size) bk)
    exact⟨by unfold Ge;rw[if_neg (by simpa using c1)],hbel⟩
  · skip
    refine W_skip ?_
    refine W_seq ?_
    refine W_reg ?_
    refine N3 (v:=(.agg #[(.pointer none),(.slice none 0 0)])) rfl (fun _=>by kernel_rfl) (fun w2 n2=>?_)
    have e2:w2.heap[wk.heap.size]? = some (.cells #[(.pointer none),(.slice none 0 0)] 114 (0,0)):=n2.here
    have z2:=n2.size
    refine Bd ?_
    refine W_seq ?_
    refine W_reg ?_
    have hfo:Cb (DepT.mk k nm op ev args)=true:=Qn (by simpa using c1)
    refine Ku (b:=w.heap.size) (o:=0) (m:=5) (c := #[(.int .i64 (k)),(S (nm)),(.int .i64 (op)),(S (ev)),(sv)]) rfl rfl Tryz.underlying67 rfl (fun _=>by kernel_rfl) (n2.keep (Dg bk e1)) (by simp) ?_
    refine Gq 11 (v':=(.agg #[(.int .i64 (k)),(S (nm)),(.int .i64 (op)),(S (ev)),(sv)])) rfl rfl ?_
    refine Ci rfl (by exact Nq) (Q6r (DepT.mk k nm op ev args) w _ _ _ [] hd0 (n2.below (Cp (n1.below (Below.refl w.heap.size w) (Below.refl w.heap.size w).size) bk) (Cp (n1.below (Below.refl w.heap.size w) (Below.refl w.heap.size w).size) bk).size) (by omega) (Bld.fresh e2) hfo hz0 (by simp only[List.length_nil];omega)) ?_
    rintro _ wp ⟨hp,kp⟩
    have zp:=kp.size
    have z_wp:=kp.size
    refine Bd ?_
    refine W_seq ?_
    refine W_reg ?_
    refine Ci rfl (by exact X01) (Q4m hp) ?_
    rintro _ wt ⟨rfl,kt⟩
    have zt:=kt.size
    have z_wt:=kt.size
    refine Au (v:=(S (D6 (DepT.mk k nm op ev args)))) rfl rfl ?_
    refine Au (v:=(.int .i64 (0))) rfl rfl ?_
    refine Bd ?_
    refine W_ret ?_
    refine T8 rfl (v0:=(S (D6 (DepT.mk k nm op ev args)))) (v1:=(.int .i64 (0))) rfl rfl ?_
    have hbel:=(Et (Et (n2.below (Cp (n1.below (Below.refl w.heap.size w) (Below.refl w.heap.size w).size) bk) (Cp (n1.below (Below.refl w.heap.size w) (Below.refl w.heap.size w).size) bk).size) kp (by omega)) kt (by omega))
    exact⟨by unfold Ge;rw[if_pos (by simpa using c1)],hbel⟩
theorem X66 (d:DepT) (hs:d.size≤4194304):FnV Tryz.prog 73 [Am d] (.tup [.str (Ge d).1,.int .i64 (Ge d).2]):=by
  intro F w vs hF hv
  obtain⟨v,rfl,h1⟩:=hv.single_inv
  obtain⟨cs,rfl,hd⟩:=X26 hF d v h1
  have hchk:∀w1,Below w.heap.size w w1→Calls Tryz.prog 121 #[.agg cs.toArray] w1 (Ret fun v w'=>v = .int .i64 (Bt d)∧Below w1.heap.size w1 w'):=fun w1 hb =>
    ((Ra d hs) F w1 [.agg cs.toArray] (fun b o e=>(hb.block b (C9 (hF b o e))).trans (hF b o e)) (.single h1)).mono (by
      rintro e w' ⟨v,he,hb',F',_,_,_,hr⟩
      simp only[VR] at hr;subst hr
      exact⟨_,he,rfl,hb'⟩)
  have hc:Calls Tryz.prog 73 #[.agg cs.toArray] w (Ret fun v w'=>v = .tuple #[S (Ge d).1,.int .i64 (Ge d).2]∧Below w.heap.size w w'):=by
    cases d with
    |mk k nm op ev args =>
      unfold DepC at hd
      obtain⟨sv,css,rfl,hr,ha⟩:=hd
      unfold DepT.size at hs
      exact X65 k op nm ev args sv css w hr ha (by omega) hchk
  refine hc.mono ?_
  rintro e w' ⟨v,he,rfl,hb⟩
  exact⟨_,he,hb,F,fun _ _ e=>e,fun b o e=>(hb.block b (C9 (hF b o e))).trans (hF b o e),fun _ _ e => .inl e,by simp only[VR];exact⟨[_,_],.cons (by simp only[VR]) (.cons (by simp only[VR]) .nil),rfl⟩⟩
end Sv
end
section
open Go Go.RowKit
namespace Sv
attribute [local irreducible] SW SO Bh
set_option maxHeartbeats 1000000
set_option maxRecDepth 100000
theorem X2m:Aj Tryz.prog 133:=Ap Tryz.func133 (by kernel_rfl) rfl
theorem X0v:Aj Tryz.prog 88:=Ap Tryz.func88 (by kernel_rfl) rfl
theorem Q0w:Aj Tryz.prog 134:=Ap Tryz.func134 (by kernel_rfl) rfl
theorem Jg:Aj Tryz.prog 90:=Ap Tryz.func90 (by kernel_rfl) rfl
theorem Tj:Aj Tryz.prog 84:=Ap Tryz.func84 (by kernel_rfl) rfl
theorem Ji:Aj Tryz.prog 36:=Ap Tryz.func36 (by kernel_rfl) rfl
theorem Nn:Aj Tryz.prog 23:=Ap Tryz.func23 (by kernel_rfl) rfl
theorem Nl:Aj Tryz.prog 86:=Ap Tryz.func86 (by kernel_rfl) rfl
theorem Ti:Aj Tryz.prog 91:=Ap Tryz.func91 (by kernel_rfl) rfl
theorem Nr:Aj Tryz.prog 121:=Ap Tryz.func121 (by kernel_rfl) rfl
theorem Q0a:Aj Tryz.prog 61:=Ap Tryz.func61 (by kernel_rfl) rfl
theorem X0w:Aj Tryz.prog 87:=Ap Tryz.func87 (by kernel_rfl) rfl
theorem X1l:Aj Tryz.prog 40:=Ap Tryz.func40 (by kernel_rfl) rfl
theorem X0z:Aj Tryz.prog 81:=Ap Tryz.func81 (by kernel_rfl) rfl
theorem X0y:Aj Tryz.prog 82:=Ap Tryz.func82 (by kernel_rfl) rfl
theorem Z5:Aj Tryz.prog 83:=Ap Tryz.func83 (by kernel_rfl) rfl
theorem X0x:Aj Tryz.prog 85:=Ap Tryz.func85 (by kernel_rfl) rfl
theorem X0u:Aj Tryz.prog 89:=Ap Tryz.func89 (by kernel_rfl) rfl
theorem X0s:Aj Tryz.prog 92:=Ap Tryz.func92 (by kernel_rfl) rfl
theorem X0r:Aj Tryz.prog 93:=Ap Tryz.func93 (by kernel_rfl) rfl
theorem X2j:Aj Tryz.prog 138:=Ap Tryz.func138 (by kernel_rfl) rfl
theorem X0q:Aj Tryz.prog 94:=Ap Tryz.func94 (by kernel_rfl) rfl
theorem X0p:Aj Tryz.prog 95:=Ap Tryz.func95 (by kernel_rfl) rfl
theorem X1k:Aj Tryz.prog 41:=Ap Tryz.func41 (by kernel_rfl) rfl
theorem Q4n (l : List (List UInt8)) (a : AV) (p : (List UInt8) → Bool) (hl : l.length ≤ 4611686018427387904) (ha : ∀ i, i < l.length → FunV Tryz.prog a [(.str (nth l i))] (.bool (p (nth l i)))) :
  FnV Tryz.prog 133 [(B1 l),(.clo a)] (.int .i64 (Ed p l)):=by
 refine A1 [.tmp 4] Tryz.func133 rfl Tryz.ntmps133 rfl rfl (fun B F hF=>?_)
 refine Aa [] [0,1] ?_
 refine Ab ?_
 refine Aa [] [0,1,7,8] ?_
 refine Ax ?_
 refine B4 (fun g y=>∃(i:Nat),i≤l.length∧(∀j,j < i→p (nth l j)=false)∧y=⟨[(0,(B1 l)),(1,(.clo a)),(7,(.int .i64 ((l.length:Int)))),(8,(.int .i64 ((i:Int))))],[],0⟩∧g=l.length-i) [0,1,7,8] 0 _ (by omega) ⟨0,(by omega),(by exact fun j hj=>by omega),(by kernel_rfl),rfl⟩ ?_
 rintro g1 y1 ⟨i,f1_1,f1_2,rfl,rfl⟩
 refine Aa [] [0,1,7,8,9] ?_
 refine Ab ?_
 refine Ba (p:=(i:Int) < (l.length:Int)) (by kernel_rfl) (fun c1=>?_) (fun c1=>?_)
 ·refine Ah ?_
  refine Ab ?_
  refine Ax ?_
  refine Aa [] [0,1,5,7,8] ?_
  refine Ab ?_
  refine Ar ?_
  refine Bm 5 0 [] [0,1,5,7,8,11,15] [] hk0 v0 (cc 3 (p:=(0≤(i:Int)∧i < l.length)) (by omega)<|c0) ?_
  refine Fq (s':=[(0,(B1 l)),(1,(.clo a)),(5,(.int .i64 ((i:Int)))),(7,(.int .i64 ((l.length:Int)))),(8,(.int .i64 ((i:Int)))),(11,(.clo a)),(15,(.str (nth l i))),(16,(.bool (p (nth l i))))]) (a:=(.clo a)) (al:=[(.str (nth l i))]) (r:=(.bool (p (nth l i)))) (by kernel_rfl) (by kernel_rfl) (by kernel_rfl) (by kernel_rfl) (by kernel_rfl) ((ha i (by omega)).clo) (by kernel_rfl) ?_
  refine Bo ?_
  refine Be (q:=p (nth l i)) (by kernel_rfl) (fun c2=>?_) (fun c2=>?_)
  ·try simp only[Ao] at c2
   refine Aa [] [4] ?_
   refine Ac ?_
   refine RK wR [(.int .i64 ((i:Int)))] ?_
   exact Same.of_eq (by rw[Lw (by omega) f1_2 (by simp_all)];rfl)
  ·try simp only[Ao] at c2
   refine Ah ?_
   refine Ar ?_
   refine Aw 0 [] [0,1,7,8] [] hk0 v0 (cc 0 (p:=(-9223372036854775808≤(i:Int)+1∧(i:Int)+1≤9223372036854775807)) (by omega)<|c0) ?_
   refine⟨by kernel_rfl,_,?_,i+1,?_,?_,(by kernel_rfl),rfl⟩
   ·omega
   ·omega
   ·intro j hj
    by_cases h:j=i
    ·subst h;simp_all
    ·exact f1_2 j (by omega)
 ·refine Bq ?_
  refine Aa [] [4] ?_
  refine Ac ?_
  refine RK wR [(.int .i64 (-1))] ?_
  exact Same.of_eq (by rw[Lv (fun j hj=>f1_2 j (by omega))];rfl)
theorem Q4o (l : List (List UInt8)) (a : AV) (p : (List UInt8) → Bool) (hl : l.length ≤ 4611686018427387904) (ha : ∀ i, i < l.length → FunV Tryz.prog a [(.str (nth l i))] (.bool (p (nth l i)))) :
  FnV Tryz.prog 88 [(B1 l),(.clo a)] (.bool (l.any p)):=by
 refine A1 [.tmp 4] Tryz.func88 rfl Tryz.ntmps88 rfl rfl (fun B F hF=>?_)
 refine Aa [] [0,1] ?_
 refine Ae [] [4] [] (hk 2 X2m (Q4n l a p hl ha)<|hk0) v0 c0 ?_
 refine Ac ?_
 refine RK wR [(.bool (decide (0≤(Ed p l))))] ?_
 exact Same.of_eq (by simp only[Ai];rw[Lx])
def F4 (i:Nat) (d:DepT):Bool:=decide (Bt d=0)&&((!(i == 0||i == 4))||decide (d.kind=1))&&((!(i == 0))||decide (d.op=0)||decide (d.op=2))
def Dl (i:Nat) (l:List DepT):Bool:=decide (l.length≤16)&&l.all (F4 i)
def Fo (p:PkgT):Bool:=Dl 0 p.provides&&Dl 1 p.requires&&Dl 2 p.pre&&Dl 3 p.conflicts&&Dl 4 p.obsoletes&&Dl 5 p.recommends&&Dl 6 p.supplements
theorem all_nth {α:Type} [Inhabited α] {p:α→Bool} {l:List α}:l.all p=true↔∀j,j < l.length→p (nth l j)=true:=by
 constructor
 ·intro h j hj
  rw[show nth l j=l[j] by simp[nth,hj]];exact List.all_eq_true.1 h _ (List.getElem_mem hj)
 ·intro h
  refine List.all_eq_true.2 fun x hx=>?_
  obtain⟨j,hj,rfl⟩:=List.getElem_of_mem hx
  have:=h j hj
  rwa [show nth l j=l[j] by simp[nth,hj]] at this
theorem Ym {i:Nat} {l:List DepT} {k:Nat} (h:l.length≤16) (hk:l.length≤k) (h2:∀j,j < k→F4 i (nth l j)=true):Dl i l=true:=by
 unfold Dl
 rw[all_nth.2 fun j hj=>h2 j (by omega),decide_eq_true h];rfl
def PkgT.list (p:PkgT):Nat→List DepT
 |0=>p.provides
 |1=>p.requires
 |2=>p.pre
 |3=>p.conflicts
 |4=>p.obsoletes
 |5=>p.recommends
 |_=>p.supplements
theorem Q05 {p:PkgT} (i:Nat) (hi:i < 7) (h:Dl i (PkgT.list p i)=false):Fo p=false:=by
 have:i=0∨i=1∨i=2∨i=3∨i=4∨i=5∨i=6:=by omega
 rcases this with rfl|rfl|rfl|rfl|rfl|rfl|rfl<;>(unfold Fo;simp only[PkgT.list] at h;simp[h])
theorem Q06 {p:PkgT} (i:Nat) (hi:i < 7) (h:16 < (PkgT.list p i).length):Fo p=false:=Q05 i hi (by unfold Dl;rw[decide_eq_false (by omega)];rfl)
theorem Qi {p:PkgT} (i:Nat) {j:Nat} (hi:i < 7) (hj:j < (PkgT.list p i).length) (h:F4 i (nth (PkgT.list p i) j)=false):Fo p=false:=Q05 i hi (by
 unfold Dl
 have:(PkgT.list p i).all (F4 i)=false:=by
  cases hq:(PkgT.list p i).all (F4 i) with
  |false=>rfl
  |true=>rw[all_nth.1 hq j hj] at h;cases h
 rw[this,Bool.and_false])
theorem X2z {p:PkgT} (h0:Dl 0 p.provides=true) (h1:Dl 1 p.requires=true) (h2:Dl 2 p.pre=true) (h3:Dl 3 p.conflicts=true) (h4:Dl 4 p.obsoletes=true) (h5:Dl 5 p.recommends=true) (h6:Dl 6 p.supplements=true):Fo p=true:=by
 unfold Fo;rw[h0,h1,h2,h3,h4,h5,h6];rfl
theorem Ox {i:Nat} (h:i < 7):i=0∨i=1∨i=2∨i=3∨i=4∨i=5∨i=6:=by omega
theorem Q07 {p:PkgT} (h:∀j,j < 7→Dl j (PkgT.list p j)=true):Fo p=true:=X2z (h 0 (by omega)) (h 1 (by omega)) (h 2 (by omega)) (h 3 (by omega)) (h 4 (by omega)) (h 5 (by omega)) (h 6 (by omega))
theorem Yj {p:PkgT} (h:p.depSize≤4194304) {i k:Nat} (hi:i < 7) (hk:k < (PkgT.list p i).length):(nth (PkgT.list p i) k).size≤4194304:=by
 have h1:=It hk
 unfold PkgT.depSize at h
 rcases Ox hi with rfl|rfl|rfl|rfl|rfl|rfl|rfl<;>(simp only[PkgT.list] at h1 ⊢;omega)
theorem Yk {p:PkgT} (h:p.depSize≤4194304) {i:Nat} (hi:i < 7):(PkgT.list p i).length≤4194304:=by
 unfold PkgT.depSize at h
 have h0:=Em p.provides
 have h1:=Em p.requires
 have h2:=Em p.pre
 have h3:=Em p.conflicts
 have h4:=Em p.obsoletes
 have h5:=Em p.recommends
 have h6:=Em p.supplements
 rcases Ox hi with rfl|rfl|rfl|rfl|rfl|rfl|rfl<;>(simp only[PkgT.list];omega)
theorem Q8y (p : PkgT) :
  FnV Tryz.prog 67 [(.fp (An p))] (.row 1 7 (fun i => .fp (Af 5 Am (PkgT.list p i)))):=by
 refine A1 [.tmp 2] Tryz.func67 rfl Tryz.ntmps67 rfl rfl (fun B F hF=>?_)
 refine Aa [] [0] ?_
 refine Cv [] [2] [] hk0 v0 c0 ?_
 refine Ac ?_
 refine RK wR [(.row 1 7 (fun ix=>(Fa 1 7 [(.fp (Af 5 Am p.provides)),(.fp (Af 5 Am p.requires)),(.fp (Af 5 Am p.pre)),(.fp (Af 5 Am p.conflicts)),(.fp (Af 5 Am p.obsoletes)),(.fp (Af 5 Am p.recommends)),(.fp (Af 5 Am p.supplements))]).getD ix Bl))] ?_
 simp only[Ai]
 exact(Imp.row fun i hi=>Imp.of_eq (by rcases Ox hi with rfl|rfl|rfl|rfl|rfl|rfl|rfl<;>rfl)).same
theorem Q6a (p : PkgT) :
  FnV Tryz.prog 138 [(An p)] (.row 1 7 (fun i=>Af 5 Am (PkgT.list p i))):=by
 refine A1 [.tmp 2] Tryz.func138 rfl Tryz.ntmps138 rfl rfl (fun B F hF=>?_)
 refine Ae [] [1] [(1,1)] hk0 v0 c0 ?_
 refine Aa [] [2] ?_
 refine Ac ?_
 refine RK wR [(.row 1 7 (fun ix=>(Fa 1 7 [(Af 5 Am p.provides),(Af 5 Am p.requires),(Af 5 Am p.pre),(Af 5 Am p.conflicts),(Af 5 Am p.obsoletes),(Af 5 Am p.recommends),(Af 5 Am p.supplements)]).getD ix Bl))] ?_
 simp only[Ai]
 exact(Imp.row fun i hi=>Imp.of_eq (by rcases Ox hi with rfl|rfl|rfl|rfl|rfl|rfl|rfl<;>rfl)).same
theorem X2y (p : PkgT) (hs : p.depSize ≤ 4194304) :
  FnV Tryz.prog 87 [(An p)] (.bool (Fo p)):=by
 refine A1 [.tmp 2] Tryz.func87 rfl Tryz.ntmps87 rfl rfl (fun B F hF=>?_)
 refine Ae [] [1] [(1,1)] hk0 v0 c0 ?_
 refine Ab ?_
 refine Ae [] [8,9,10] [] (hk 0 Z9 (Q8y p)<|hk0) v0 c0 ?_
 refine Ax ?_
 refine B4 (fun g y=>∃(i:Nat),i≤7∧(∀j,j < i→Dl j (PkgT.list p j)=true)∧y=⟨[(8,(.row 1 7 (fun i => .fp (Af 5 Am (PkgT.list p i))))),(9,(.int .i64 7)),(10,(.int .i64 ((i:Int))))],[],1⟩∧g=7-i) [8,9,10] 1 _ (by omega) ⟨0,(by omega),(by exact fun j hj=>by omega),(by kernel_rfl),rfl⟩ ?_
 rintro g1 y1 ⟨i,f1_1,f1_2,rfl,rfl⟩
 refine Aa [] [8,9,10,11] ?_
 refine Ab ?_
 refine Ba (p:=(i:Int) < 7) (by kernel_rfl) (fun c1=>?_) (fun c1=>?_)
 ·have hi0:((i:Int)=0)=(i=0):=by rw[eq_iff_iff];omega
  have hi4:((i:Int)=4)=(i=4):=by rw[eq_iff_iff];omega
  have hll:=Yk hs (i:=i) (by omega)
  refine Ah ?_
  refine Ab ?_
  refine Ax ?_
  refine Ae [] [3,4,8,9,10] [] hk0 v0 (cc 1 (p:=(0≤(i:Int)∧i < 7)) (by omega)<|c0) ?_
  refine Ab ?_
  refine Aa [] [3,4,8,9,10,19] ?_
  refine Ba (p:=16 < ((PkgT.list p i).length:Int)) (by kernel_rfl) (fun c2=>?_) (fun c2=>?_)
  ·refine Aa [] [2] ?_
   refine Ac ?_
   refine RK wR [(.bool false)] ?_
   exact Same.of_eq (by rw[Q06 i (by omega) (by omega)];rfl)
  ·refine Ah ?_
   refine Aa [] [3,8,9,10,22,23,24] ?_
   refine Ax ?_
   refine B4 (fun g y=>∃(k:Nat),k≤(PkgT.list p i).length∧(∀j,j < k→F4 i (nth (PkgT.list p i) j)=true)∧y=⟨[(3,(.int .i64 ((i:Int)))),(8,(.row 1 7 (fun i => .fp (Af 5 Am (PkgT.list p i))))),(9,(.int .i64 7)),(10,(.int .i64 ((i:Int)))),(22,(Af 5 Am (PkgT.list p i))),(23,(.int .i64 (((PkgT.list p i).length:Int)))),(24,(.int .i64 ((k:Int))))],[],1⟩∧g=(PkgT.list p i).length-k) [3,8,9,10,22,23,24] 1 _ (by omega) ⟨0,(by omega),(by exact fun j hj=>by omega),(by kernel_rfl),rfl⟩ ?_
   rintro g2 y2 ⟨k,f2_1,f2_2,rfl,rfl⟩
   refine Aa [] [3,8,9,10,22,23,24,25] ?_
   refine Ab ?_
   refine Ba (p:=(k:Int) < ((PkgT.list p i).length:Int)) (by kernel_rfl) (fun c3=>?_) (fun c3=>?_)
   ·refine Ah ?_
    refine Ab ?_
    refine Ax ?_
    refine Ae [] [3,6,8,9,10,22,23,24] [] hk0 v0 (cc 0 (p:=(0≤(k:Int)∧k < (PkgT.list p i).length)) (by omega)<|c0) ?_
    obtain⟨b1,hb1⟩:∃b,b=(!decide ((i:Int)=0)):=⟨_,rfl⟩
    obtain⟨b2,hb2⟩:∃b,b=(b1&&(!decide ((i:Int)=4))):=⟨_,rfl⟩
    obtain⟨b3,hb3⟩:∃b,b=(b2||(decide (((nth (PkgT.list p i) k).kind)=1))):=⟨_,rfl⟩
    have qh1:((b1=true→b1=true))∧((b1=true→b1=true))∧(((!b2)=true→(!b2)=true))∧(((!b2)=true→(!b2)=true))∧((b2=false→(!b2)=true)):=by
     first|omega|(simp;done)|(by_cases a1:Bt (nth (PkgT.list p i) k)=0<;>by_cases a2:DepT.kind (nth (PkgT.list p i) k)=1<;>by_cases a3:DepT.op (nth (PkgT.list p i) k)=0<;>by_cases a4:DepT.op (nth (PkgT.list p i) k)=2<;>by_cases b0:i=0<;>by_cases b4:i=4<;>simp_all)
    refine Ae [31,32,35,36,37] [3,6,7,8,9,10,22,23,24] [(0,6)] hk0 (vk 3 30 (a:=.bool (!decide ((i:Int)=0))) (b:=.bool b1) (Imp.of_eq (by rw[hb1]))<|vk 7 34 (a:=.bool (b1&&(!decide ((i:Int)=4)))) (b:=.bool b2) (Imp.of_eq (by rw[hb2]))<|vk 11 38 (a:=.bool (b2||(decide (((nth (PkgT.list p i) k).kind)=1)))) (b:=.bool b3) (Imp.of_eq (by rw[hb3]))<|v0) (cc 4 (p:=(b1=true→b1=true)) qh1.1<|cc 5 (p:=(b1=true→b1=true)) qh1.2.1<|cc 8 (p:=((!b2)=true→(!b2)=true)) qh1.2.2.1<|cc 9 (p:=((!b2)=true→(!b2)=true)) qh1.2.2.2.1<|cc 10 (p:=(b2=false→(!b2)=true)) qh1.2.2.2.2<|c0) ?_
    obtain⟨b4,hb4⟩:∃b,b=((!b3)||(!decide ((Bt (nth (PkgT.list p i) k))=0))):=⟨_,rfl⟩
    have qh2:(((!(!b3))=true→(!(!b3))=true))∧(((!b3)=false→(!(!b3))=true))∧(((!b4)=true→(!b4)=true))∧(((!b4)=true→(!b4)=true))∧((((!b4)&&(decide ((i:Int)=0)))=true→((!b4)&&(decide ((i:Int)=0)))=true))∧((((!b4)&&(decide ((i:Int)=0)))=true→((!b4)&&(decide ((i:Int)=0)))=true))∧(((!b4)=true→((!b4)=true)∧((decide ((i:Int)=0))=true→((!b4)&&(decide ((i:Int)=0)))=true)))∧(((!b4)=true→(!b4)=true))∧((((!b4)&&((decide ((i:Int)=0))&&(!decide (((nth (PkgT.list p i) k).op)=0))))=true→((!b4)&&((decide ((i:Int)=0))&&(!decide (((nth (PkgT.list p i) k).op)=0))))=true))∧((((!b4)&&((decide ((i:Int)=0))&&(!decide (((nth (PkgT.list p i) k).op)=0))))=true→((!b4)&&((decide ((i:Int)=0))&&(!decide (((nth (PkgT.list p i) k).op)=0))))=true))∧(((!b4)=true→((!b4)=true)∧(((decide ((i:Int)=0))&&(!decide (((nth (PkgT.list p i) k).op)=0)))=true→((!b4)&&((decide ((i:Int)=0))&&(!decide (((nth (PkgT.list p i) k).op)=0))))=true)))∧((b4=false→(!b4)=true)):=by
     first|omega|(simp;done)|(by_cases a1:Bt (nth (PkgT.list p i) k)=0<;>by_cases a2:DepT.kind (nth (PkgT.list p i) k)=1<;>by_cases a3:DepT.op (nth (PkgT.list p i) k)=0<;>by_cases a4:DepT.op (nth (PkgT.list p i) k)=2<;>by_cases b0:i=0<;>by_cases b4:i=4<;>simp_all)
    refine Ae [42,44,47,48,49,50,51,52,53,54,55,56,57,58] [3,8,9,10,22,23,24,59] [] (hkg 4 (!(!b3)) Nr (fun cg=>Ra (nth (PkgT.list p i) k) (Yj hs (by omega) (by omega)))<|hk0) (vk 7 45 (a:=.bool ((!b3)||(!decide ((Bt (nth (PkgT.list p i) k))=0)))) (b:=.bool b4) (Imp.of_eq (by rw[hb4]))<|v0) (cc 4 (p:=(!(!b3))=true→(!(!b3))=true) (by simp)<|cc 5 (p:=((!(!b3))=true→(!(!b3))=true)) qh2.1<|cc 6 (p:=((!b3)=false→(!(!b3))=true)) qh2.2.1<|cc 9 (p:=((!b4)=true→(!b4)=true)) qh2.2.2.1<|cc 10 (p:=((!b4)=true→(!b4)=true)) qh2.2.2.2.1<|cc 12 (p:=(((!b4)&&(decide ((i:Int)=0)))=true→((!b4)&&(decide ((i:Int)=0)))=true)) qh2.2.2.2.2.1<|cc 13 (p:=(((!b4)&&(decide ((i:Int)=0)))=true→((!b4)&&(decide ((i:Int)=0)))=true)) qh2.2.2.2.2.2.1<|cc 14 (p:=((!b4)=true→((!b4)=true)∧((decide ((i:Int)=0))=true→((!b4)&&(decide ((i:Int)=0)))=true))) qh2.2.2.2.2.2.2.1<|cc 15 (p:=((!b4)=true→(!b4)=true)) qh2.2.2.2.2.2.2.2.1<|cc 17 (p:=(((!b4)&&((decide ((i:Int)=0))&&(!decide (((nth (PkgT.list p i) k).op)=0))))=true→((!b4)&&((decide ((i:Int)=0))&&(!decide (((nth (PkgT.list p i) k).op)=0))))=true)) qh2.2.2.2.2.2.2.2.2.1<|cc 18 (p:=(((!b4)&&((decide ((i:Int)=0))&&(!decide (((nth (PkgT.list p i) k).op)=0))))=true→((!b4)&&((decide ((i:Int)=0))&&(!decide (((nth (PkgT.list p i) k).op)=0))))=true)) qh2.2.2.2.2.2.2.2.2.2.1<|cc 19 (p:=((!b4)=true→((!b4)=true)∧(((decide ((i:Int)=0))&&(!decide (((nth (PkgT.list p i) k).op)=0)))=true→((!b4)&&((decide ((i:Int)=0))&&(!decide (((nth (PkgT.list p i) k).op)=0))))=true))) qh2.2.2.2.2.2.2.2.2.2.2.1<|cc 20 (p:=(b4=false→(!b4)=true)) qh2.2.2.2.2.2.2.2.2.2.2.2<|c0) ?_
    refine Be (q:=b4||(((decide ((i:Int)=0))&&(!decide (((nth (PkgT.list p i) k).op)=0)))&&(!decide (((nth (PkgT.list p i) k).op)=2)))) (by kernel_rfl) (fun c4=>?_) (fun c4=>?_)
    ·subst hb4 hb3 hb2 hb1
     try simp only[Ao] at c4
     refine Aa [] [2] ?_
     refine Ac ?_
     refine RK wR [(.bool false)] ?_
     exact Same.of_eq (by rw[Qi i (j:=k) (by omega) (by omega) (by unfold F4;by_cases a1:Bt (nth (PkgT.list p i) k)=0<;>by_cases a2:DepT.kind (nth (PkgT.list p i) k)=1<;>by_cases a3:DepT.op (nth (PkgT.list p i) k)=0<;>by_cases a4:DepT.op (nth (PkgT.list p i) k)=2<;>by_cases b0:i=0<;>by_cases b4:i=4<;>simp_all)];rfl)
    ·subst hb4 hb3 hb2 hb1
     try simp only[Ao] at c4
     refine Ah ?_
     refine Ar ?_
     refine Aw 0 [] [3,8,9,10,22,23,24] [] hk0 v0 (cc 0 (p:=(-9223372036854775808≤(k:Int)+1∧(k:Int)+1≤9223372036854775807)) (by omega)<|c0) ?_
     refine⟨by kernel_rfl,_,?_,k+1,?_,?_,(by kernel_rfl),rfl⟩
     ·omega
     ·omega
     ·intro j hj
      by_cases h:j=k
      ·subst h;unfold F4;by_cases a1:Bt (nth (PkgT.list p i) j)=0<;>by_cases a2:DepT.kind (nth (PkgT.list p i) j)=1<;>by_cases a3:DepT.op (nth (PkgT.list p i) j)=0<;>by_cases a4:DepT.op (nth (PkgT.list p i) j)=2<;>by_cases b0:i=0<;>by_cases b4:i=4<;>simp_all
      ·exact f2_2 j (by omega)
   ·refine Bq ?_
    refine Ar ?_
    refine Aw 0 [] [8,9,10] [] hk0 v0 (cc 0 (p:=(-9223372036854775808≤(i:Int)+1∧(i:Int)+1≤9223372036854775807)) (by omega)<|c0) ?_
    refine⟨by kernel_rfl,_,?_,i+1,?_,?_,(by kernel_rfl),rfl⟩
    ·omega
    ·omega
    ·intro j hj
     by_cases h:j=i
     ·subst h;exact Ym (k:=k) (by omega) (by omega) f2_2
     ·exact f1_2 j (by omega)
 ·refine Bq ?_
  refine Aa [] [2] ?_
  refine Ac ?_
  refine RK wR [(.bool true)] ?_
  exact Same.of_eq (by rw[Q07 fun j hj=>f1_2 j (by omega)];rfl)
theorem Q6e (p : PkgT) (hs : p.depSize ≤ 4194304) :
  FnV Tryz.prog 94 [(An p)] (.bool (Fo p)):=by
 refine A1 [.tmp 2] Tryz.func94 rfl Tryz.ntmps94 rfl rfl (fun B F hF=>?_)
 refine Ae [] [1] [(1,1)] hk0 v0 c0 ?_
 refine Ae [] [3] [] (hk 1 X2j (Q6a p)<|hk0) v0 c0 ?_
 refine Ab ?_
 refine Aa [] [3,4] ?_
 refine Ax ?_
 refine B4 (fun g y=>∃(i:Nat),i≤7∧(∀j,j < i→Dl j (PkgT.list p j)=true)∧y=⟨[(3,(.row 1 7 (fun i=>Af 5 Am (PkgT.list p i)))),(4,(.int .i64 ((i:Int))))],[],1⟩∧g=7-i) [3,4] 1 _ (by omega) ⟨0,(by omega),(by exact fun j hj=>by omega),(by kernel_rfl),rfl⟩ ?_
 rintro g1 y1 ⟨i,f1_1,f1_2,rfl,rfl⟩
 refine Ab ?_
 refine Aa [] [3,4,12] ?_
 refine Ba (p:=(i:Int) < 7) (by kernel_rfl) (fun c1=>?_) (fun c1=>?_)
 ·have hi0:((i:Int)=0)=(i=0):=by rw[eq_iff_iff];omega
  have hi4:((i:Int)=4)=(i=4):=by rw[eq_iff_iff];omega
  have hll:=Yk hs (i:=i) (by omega)
  refine Ah ?_
  refine Ab ?_
  refine Ax ?_
  refine Ab ?_
  refine Ae [] [3,4,20] [] hk0 v0 (cc 2 (p:=(0≤(i:Int)∧i < 7)) (by omega)<|c0) ?_
  refine Ba (p:=16 < ((PkgT.list p i).length:Int)) (by kernel_rfl) (fun c2=>?_) (fun c2=>?_)
  ·refine Aa [] [2] ?_
   refine Ac ?_
   refine RK wR [(.bool false)] ?_
   exact Same.of_eq (by rw[Q06 i (by omega) (by omega)];rfl)
  ·refine Ah ?_
   refine Aa [] [3,4,5] ?_
   refine Ax ?_
   refine B4 (fun g y=>∃(k:Nat),k≤(PkgT.list p i).length∧(∀j,j < k→F4 i (nth (PkgT.list p i) j)=true)∧y=⟨[(3,(.row 1 7 (fun i=>Af 5 Am (PkgT.list p i)))),(4,(.int .i64 ((i:Int)))),(5,(.int .i64 ((k:Int))))],[],1⟩∧g=(PkgT.list p i).length-k) [3,4,5] 1 _ (by omega) ⟨0,(by omega),(by exact fun j hj=>by omega),(by kernel_rfl),rfl⟩ ?_
   rintro g2 y2 ⟨k,f2_1,f2_2,rfl,rfl⟩
   refine Ab ?_
   refine Ae [] [3,4,5,27] [] hk0 v0 (cc 3 (p:=(0≤(i:Int)∧i < 7)) (by omega)<|c0) ?_
   refine Ba (p:=(k:Int) < ((PkgT.list p i).length:Int)) (by kernel_rfl) (fun c3=>?_) (fun c3=>?_)
   ·refine Ah ?_
    refine Ab ?_
    refine Ax ?_
    refine Ae (CS:=[(2,(0≤(i:Int)∧i < 7)),(5,(0≤(k:Int)∧k < (PkgT.list p i).length))]) [] [3,4,5,6] [] hk0 v0 (by refine cc _ ?_<|cc _ ?_ c0<;>omega) ?_
    refine Ab ?_
    refine Ae [] [3,4,5,6,39] [(0,6)] (hk 1 Q0a (Q6g (nth (PkgT.list p i) k) (Yj hs (by omega) (by omega)))<|hk0) v0 c0 ?_
    refine Dh (p:=(Bt (nth (PkgT.list p i) k))=0) (by kernel_rfl) (fun c4=>?_) (fun c4=>?_)
    ·refine Aa [] [2] ?_
     refine Ac ?_
     refine RK wR [(.bool false)] ?_
     exact Same.of_eq (by rw[Qi i (j:=k) (by omega) (by omega) (by unfold F4;by_cases a1:Bt (nth (PkgT.list p i) k)=0<;>by_cases a2:DepT.kind (nth (PkgT.list p i) k)=1<;>by_cases a3:DepT.op (nth (PkgT.list p i) k)=0<;>by_cases a4:DepT.op (nth (PkgT.list p i) k)=2<;>by_cases b0:i=0<;>by_cases b4:i=4<;>simp_all)];rfl)
    ·refine Ah ?_
     refine Ab ?_
     obtain⟨b1,hb1⟩:∃b,b=(decide ((i:Int)=0)):=⟨_,rfl⟩
     obtain⟨b2,hb2⟩:∃b,b=(b1||(decide ((i:Int)=4))):=⟨_,rfl⟩
     have qh1:(((!b1)=true→(!b1)=true))∧((b1=false→(!b1)=true))∧((b2=true→b2=true))∧((b2=true→b2=true))∧((b2=true→b2=true)):=by
      first|omega|(simp;done)|(by_cases a1:Bt (nth (PkgT.list p i) k)=0<;>by_cases a2:DepT.kind (nth (PkgT.list p i) k)=1<;>by_cases a3:DepT.op (nth (PkgT.list p i) k)=0<;>by_cases a4:DepT.op (nth (PkgT.list p i) k)=2<;>by_cases b0:i=0<;>by_cases b4:i=4<;>simp_all)
     refine Ae [43,44,47,48,49] [3,4,5,6,50] [] hk0 (vk 3 42 (a:=.bool (decide ((i:Int)=0))) (b:=.bool b1) (Imp.of_eq (by rw[hb1]))<|vk 7 46 (a:=.bool (b1||(decide ((i:Int)=4)))) (b:=.bool b2) (Imp.of_eq (by rw[hb2]))<|v0) (cc 4 (p:=((!b1)=true→(!b1)=true)) qh1.1<|cc 5 (p:=(b1=false→(!b1)=true)) qh1.2.1<|cc 8 (p:=(b2=true→b2=true)) qh1.2.2.1<|cc 9 (p:=(b2=true→b2=true)) qh1.2.2.2.1<|cc 10 (p:=(b2=true→b2=true)) qh1.2.2.2.2<|c0) ?_
     refine Be (q:=b2&&(!decide (((nth (PkgT.list p i) k).kind)=1))) (by kernel_rfl) (fun c5=>?_) (fun c5=>?_)
     ·subst hb2 hb1
      try simp only[Ao] at c5
      refine Aa [] [2] ?_
      refine Ac ?_
      refine RK wR [(.bool false)] ?_
      exact Same.of_eq (by rw[Qi i (j:=k) (by omega) (by omega) (by unfold F4;by_cases a1:Bt (nth (PkgT.list p i) k)=0<;>by_cases a2:DepT.kind (nth (PkgT.list p i) k)=1<;>by_cases a3:DepT.op (nth (PkgT.list p i) k)=0<;>by_cases a4:DepT.op (nth (PkgT.list p i) k)=2<;>by_cases b0:i=0<;>by_cases b4:i=4<;>simp_all)];rfl)
     ·subst hb2 hb1
      try simp only[Ao] at c5
      refine Ah ?_
      obtain⟨b3,hb3⟩:∃b,b=(decide ((i:Int)=0)):=⟨_,rfl⟩
      obtain⟨b4,hb4⟩:∃b,b=(b3&&(!decide (((nth (PkgT.list p i) k).op)=0))):=⟨_,rfl⟩
      have qh2:((b3=true→b3=true))∧((b3=true→b3=true))∧((b3=true→b3=true))∧((b4=true→b4=true))∧((b4=true→b4=true))∧((b4=true→b4=true)):=by
       first|omega|(simp;done)|(by_cases a1:Bt (nth (PkgT.list p i) k)=0<;>by_cases a2:DepT.kind (nth (PkgT.list p i) k)=1<;>by_cases a3:DepT.op (nth (PkgT.list p i) k)=0<;>by_cases a4:DepT.op (nth (PkgT.list p i) k)=2<;>by_cases b0:i=0<;>by_cases b4:i=4<;>simp_all)
      refine Ae [54,55,56,59,60,61] [3,4,5,62] [] hk0 (vk 3 53 (a:=.bool (decide ((i:Int)=0))) (b:=.bool b3) (Imp.of_eq (by rw[hb3]))<|vk 7 57 (a:=.bool (b3&&(!decide (((nth (PkgT.list p i) k).op)=0)))) (b:=.bool b4) (Imp.of_eq (by rw[hb4]))<|v0) (cc 4 (p:=(b3=true→b3=true)) qh2.1<|cc 5 (p:=(b3=true→b3=true)) qh2.2.1<|cc 6 (p:=(b3=true→b3=true)) qh2.2.2.1<|cc 9 (p:=(b4=true→b4=true)) qh2.2.2.2.1<|cc 10 (p:=(b4=true→b4=true)) qh2.2.2.2.2.1<|cc 11 (p:=(b4=true→b4=true)) qh2.2.2.2.2.2<|c0) ?_
      refine Be (q:=b4&&(!decide (((nth (PkgT.list p i) k).op)=2))) (by kernel_rfl) (fun c6=>?_) (fun c6=>?_)
      ·subst hb4 hb3
       try simp only[Ao] at c6
       refine Aa [] [2] ?_
       refine Ac ?_
       refine RK wR [(.bool false)] ?_
       exact Same.of_eq (by rw[Qi i (j:=k) (by omega) (by omega) (by unfold F4;by_cases a1:Bt (nth (PkgT.list p i) k)=0<;>by_cases a2:DepT.kind (nth (PkgT.list p i) k)=1<;>by_cases a3:DepT.op (nth (PkgT.list p i) k)=0<;>by_cases a4:DepT.op (nth (PkgT.list p i) k)=2<;>by_cases b0:i=0<;>by_cases b4:i=4<;>simp_all)];rfl)
      ·subst hb4 hb3
       try simp only[Ao] at c6
       refine Ah ?_
       refine Ar ?_
       refine Aw 0 [] [3,4,5] [] hk0 v0 (cc 1 (p:=(-9223372036854775808≤(k:Int)+1∧(k:Int)+1≤9223372036854775807)) (by omega)<|c0) ?_
       refine⟨by kernel_rfl,_,?_,k+1,?_,?_,(by kernel_rfl),rfl⟩
       ·omega
       ·omega
       ·intro j hj
        by_cases h:j=k
        ·subst h;unfold F4;by_cases a1:Bt (nth (PkgT.list p i) j)=0<;>by_cases a2:DepT.kind (nth (PkgT.list p i) j)=1<;>by_cases a3:DepT.op (nth (PkgT.list p i) j)=0<;>by_cases a4:DepT.op (nth (PkgT.list p i) j)=2<;>by_cases b0:i=0<;>by_cases b4:i=4<;>simp_all
        ·exact f2_2 j (by omega)
   ·refine Bq ?_
    refine Ar ?_
    refine Aw 0 [] [3,4] [] hk0 v0 (cc 1 (p:=(-9223372036854775808≤(i:Int)+1∧(i:Int)+1≤9223372036854775807)) (by omega)<|c0) ?_
    refine⟨by kernel_rfl,_,?_,i+1,?_,?_,(by kernel_rfl),rfl⟩
    ·omega
    ·omega
    ·intro j hj
     by_cases h:j=i
     ·subst h;exact Ym (k:=k) (by omega) (by omega) f2_2
     ·exact f1_2 j (by omega)
 ·refine Bq ?_
  refine Aa [] [2] ?_
  refine Ac ?_
  refine RK wR [(.bool true)] ?_
  exact Same.of_eq (by rw[Q07 fun j hj=>f1_2 j (by omega)];rfl)
end Sv
end
section
open Go Go.RowKit
namespace Sv
attribute [local irreducible] SW SO Bh
set_option maxHeartbeats 1000000
set_option maxRecDepth 100000
def Er (x:Nat):Bool:=(decide (97≤x)&&decide (x≤122))||(decide (48≤x)&&decide (x≤57))||decide (x=95)
def E2 (x:Nat):Bool:=decide (32≤x)&&decide (x≤126)
def F8 (s:List UInt8) (most:Int) (q:Nat→Bool):Bool:=decide ((s.length:Int)≤most)&&decide (Lib.idxFunc (fun x => !q x) true ⟨s.toArray⟩ < 0)
theorem Q2h (s:List UInt8) (most:Int) {q:Nat→Bool} (hq:∀r,128≤r→q r=false):F8 s most q=(decide ((s.length:Int)≤most)&&s.all fun b=>q b.toNat):=by
 unfold F8;rw[Za (fun r hr=>by rw[hq r hr];rfl)];simp
theorem Q4y (r:Nat) (h:128≤r):Er r=false:=by unfold Er;simp;omega
theorem Q5e (r:Nat) (h:128≤r):E2 r=false:=by unfold E2;simp;omega
theorem Q2f {s:List UInt8} {q:Nat→Bool} {i:Nat} (hi:i < s.length) (h:q (Ag s i).toNat=false):(s.all fun b=>q b.toNat)=false:=by
 rw[List.all_eq_false]
 rw[Jk hi] at h
 exact⟨s[i],List.getElem_mem hi,by simp[h]⟩
theorem Q2e {s:List UInt8} {q:Nat→Bool} {i:Nat} (hi:s.length≤i) (h:∀j,j < i→q (Ag s j).toNat=true):(s.all fun b=>q b.toNat)=true:=by
 rw[List.all_eq_true]
 intro x hx
 obtain⟨j,hj,rfl⟩:=List.getElem_of_mem hx
 have:=h j (by omega)
 rwa [Jk hj] at this
def Ha (s:List UInt8):Bool:=decide (1≤s.length)&&decide (s.length≤20)&&s.all fun b=>Er b.toNat
def Ht (f:List UInt8):Bool:=A8 f 47&&Bc f
def Gv (s:List UInt8):Bool:=s.all fun b=>E2 b.toNat
def Il (l:List (List UInt8)):Bool:=decide (l.length≤16)&&l.all Ht
def Qr (l:List (List UInt8)):Bool:=l.any fun x => !Ht x
def Cm (p:PkgT):Int :=
 if Bc p.name=false then 60
 else if Bv p.evr≠0 then 61
 else if Ha p.arch=false then 62
 else if (decide (p.vendor.length≤60)&&Gv p.vendor)=false then 63
 else if Fo p=false then 64
 else if Il p.files=false then 65
 else 0
def Ic (p:PkgT):Int :=
 if Bc p.name=false then 60
 else if ¬Bv p.evr=0 then 61
 else if p.arch=[]∨F8 p.arch 20 Er=false then 62
 else if F8 p.vendor 60 E2=false then 63
 else if Fo p=false then 64
 else if (16:Int) < (p.files.length:Int)∨Qr p.files=true then 65
 else 0
theorem J6 (p:PkgT):Ic p=Cm p:=by
 have ha1:(p.arch=[]∨F8 p.arch 20 Er=false)↔Ha p.arch=false:=by
  rw[Q2h p.arch 20 Q4y]
  unfold Ha
  cases h:p.arch with
  |nil=>simp
  |cons a r =>
   rw[show decide (1≤(a::r).length)=true by simp,Bool.true_and]
   rw[show decide (((a::r).length:Int)≤20)=decide ((a::r).length≤20) from decide_eq_decide.2 (by omega)]
   simp
 have ha2:F8 p.vendor 60 E2=(decide (p.vendor.length≤60)&&Gv p.vendor):=by
  unfold Gv
  rw[Q2h p.vendor 60 Q5e,show decide ((p.vendor.length:Int)≤60)=decide (p.vendor.length≤60) from decide_eq_decide.2 (by omega)]
 have ha3:((16:Int) < (p.files.length:Int)∨Qr p.files=true)↔Il p.files=false:=by
  unfold Qr Il
  rw[X4n]
  simp only[Bool.and_eq_false_iff,decide_eq_false_iff_not,Bool.not_eq_true']
  constructor
  ·rintro (h|h)
   ·left;omega
   ·exact .inr h
  ·rintro (h|h)
   ·left;omega
   ·exact .inr h
 unfold Ic Cm
 simp only[ha1,ha2,ha3]
def Ib (p:PkgT):Int :=
 if Bc p.name=false then 60
 else if ¬Bv p.evr=0 then 61
 else if Ha p.arch=false then 62
 else if Gv p.vendor=false∨(60:Int) < (p.vendor.length:Int) then 63
 else if Fo p=false then 64
 else if Il p.files=false then 65
 else 0
theorem J5 (p:PkgT):Ib p=Cm p:=by
 have ha:(Gv p.vendor=false∨(60:Int) < (p.vendor.length:Int))↔(decide (p.vendor.length≤60)&&Gv p.vendor)=false:=by
  simp only[Bool.and_eq_false_iff,decide_eq_false_iff_not]
  constructor
  ·rintro (h|h)
   ·exact .inr h
   ·left;omega
  ·rintro (h|h)
   ·right;omega
   ·exact .inl h
 unfold Ib Cm
 simp only[ha]
theorem Zz {f:List UInt8}:Ht f=(Bc f&&decide (((Ag f 0).toNat:Int)=47)):=by
 unfold Ht
 cases f with
 |nil=>rw[show Bc []=false by decide];simp
 |cons a r =>
  have h1:A8 (a::r) 47=decide (a=47):=by simp[A8]
  have h2:Ag (a::r) 0=a:=by simp[Ag]
  rw[h1,h2,Bool.and_comm]
  congr 1
  refine decide_eq_decide.2 ⟨fun h=>by rw[h];rfl,fun h=>UInt8.toNat_inj.1 (by show _=47;omega)⟩
theorem Q4z (x : Nat) :
  FnV Tryz.prog 81 [(.int .i32 ((x:Int)))] (.bool (Er x)):=by
 refine A1 [.tmp 2] Tryz.func81 rfl Tryz.ntmps81 rfl rfl (fun B F hF=>?_)
 refine Aa [] [0] ?_
 obtain⟨b1,hb1⟩:∃b,b=(decide (97≤(x:Int))):=⟨_,rfl⟩
 obtain⟨b2,hb2⟩:∃b,b=(b1&&(decide ((x:Int)≤122))):=⟨_,rfl⟩
 obtain⟨b3,hb3⟩:∃b,b=(b2||((decide (48≤(x:Int)))&&(decide ((x:Int)≤57)))):=⟨_,rfl⟩
 refine Ae (CS:=[(4,(b1=true→b1=true)),(5,(b1=true→b1=true)),(8,((!b2)=true→(!b2)=true)),(9,((!b2)=true→(!b2)=true)),(11,(((!b2)&&(decide (48≤(x:Int))))=true→((!b2)&&(decide (48≤(x:Int))))=true)),(12,((!b2)=true→((!b2)=true)∧((decide (48≤(x:Int)))=true→((!b2)&&(decide (48≤(x:Int))))=true))),(13,(b2=false→(!b2)=true)),(16,((!b3)=true→(!b3)=true)),(17,(b3=false→(!b3)=true))]) [6,7,10,11,12,13,14,15,18,19] [2] [] hk0 (vk 3 5 (a:=.bool (decide (97≤(x:Int)))) (b:=.bool b1) (Imp.of_eq (by rw[hb1]))<|vk 7 9 (a:=.bool (b1&&(decide ((x:Int)≤122)))) (b:=.bool b2) (Imp.of_eq (by rw[hb2]))<|vk 14 16 (a:=.bool (b2||((decide (48≤(x:Int)))&&(decide ((x:Int)≤57))))) (b:=.bool b3) (Imp.of_eq (by rw[hb3]))<|v0) (by refine cc _ ?_<|cc _ ?_<|cc _ ?_<|cc _ ?_<|cc _ ?_<|cc _ ?_<|cc _ ?_<|cc _ ?_<|cc _ ?_ c0<;>(intros;simp_all;done)) ?_
 refine Ac ?_
 refine RK wR [(.bool (b3||(decide ((x:Int)=95))))] ?_
 subst hb3 hb2 hb1
 refine Same.of_eq ?_
 simp only[Ai]
 congr 1
 unfold Er
 rw[Bool.eq_iff_iff]
 simp only[Bool.and_eq_true,Bool.or_eq_true,decide_eq_true_eq]
 omega
theorem Q5f (x : Nat) :
  FnV Tryz.prog 82 [(.int .i32 ((x:Int)))] (.bool (E2 x)):=by
 refine A1 [.tmp 2] Tryz.func82 rfl Tryz.ntmps82 rfl rfl (fun B F hF=>?_)
 refine Aa [] [0] ?_
 obtain⟨b1,hb1⟩:∃b,b=(decide (32≤(x:Int))):=⟨_,rfl⟩
 refine Ae (CS:=[(4,(b1=true→b1=true)),(5,(b1=true→b1=true))]) [6,7] [2] [] hk0 (vk 3 5 (a:=.bool (decide (32≤(x:Int)))) (b:=.bool b1) (Imp.of_eq (by rw[hb1]))<|v0) (by refine cc _ ?_<|cc _ ?_ c0<;>simp) ?_
 refine Ac ?_
 refine RK wR [(.bool (b1&&(decide ((x:Int)≤126))))] ?_
 subst hb1
 refine Same.of_eq ?_
 simp only[Ai]
 congr 1
 unfold E2
 rw[Bool.eq_iff_iff]
 simp only[Bool.and_eq_true,Bool.or_eq_true,decide_eq_true_eq]
 omega
theorem Q7p (x : Nat) (a : AV) (q : Nat → Bool) (hx : x ≤ 1114111) (ha : ∀ x : Nat, x ≤ 1114111 → FunV Tryz.prog a [.int .i32 (x : Int)] (.bool (q x))) :
  FnV Tryz.prog 85 [(.int .i32 ((x:Int))),(.fp (.agg [(.clo a)]))] (.bool (!q x)):=by
 refine A1 [.tmp 3] Tryz.func85 rfl Tryz.ntmps85 rfl rfl (fun B F hF=>?_)
 refine Aa [] [0,1] ?_
 refine Ab ?_
 refine Ar ?_
 refine Bm 2 0 [] [4,5] [] hk0 v0 c0 ?_
 refine Fq (s':=[(4,(.clo a)),(5,(.int .i32 ((x:Int)))),(6,(.bool (q x)))]) (a:=(.clo a)) (al:=[(.int .i32 ((x:Int)))]) (r:=(.bool (q x))) (by kernel_rfl) (by kernel_rfl) (by kernel_rfl) (by kernel_rfl) (by kernel_rfl) ((ha x hx).clo) (by kernel_rfl) ?_
 refine Aw 3 [] [3] [] hk0 v0 c0 ?_
 refine Ac ?_
 refine RK wR [(.bool (!(q x)))] ?_
 exact Same.of_eq (by first|rfl|(simp only[Ai];simp_all))
theorem Q2c (s : List UInt8) (most : Int) (a : AV) (q : Nat → Bool) (hl : s.length ≤ 9223372036854775807) (ha : ∀ x : Nat, x ≤ 1114111 → FunV Tryz.prog a [.int .i32 (x : Int)] (.bool (q x))) :
  FnV Tryz.prog 83 [(.str s),(.int .i64 most),(.clo a)] (.bool (F8 s most q)):=by
 refine A1 [.tmp 6] Tryz.func83 rfl Tryz.ntmps83 rfl rfl (fun B F hF=>?_)
 refine Aa [] [0,1,5] ?_
 refine Ab ?_
 refine Ar ?_
 obtain⟨b2,hb2⟩:∃b,b=(decide ((s.length:Int)≤most)):=⟨_,rfl⟩
 refine Bm 7 0 [12,13] [11,12,13] [] hk0 (vk 5 11 (a:=.bool (decide ((s.length:Int)≤most))) (b:=.bool b2) (Imp.of_eq (by rw[hb2]))<|v0) c0 ?_
 refine Up (s':=[(11,(.bool b2)),(12,(.cond b2 (.str s))),(13,(.cond b2 (.fn 85 [] [(.ptr 0 0)]))),(14,(.cond b2 (.int .i64 (Lib.idxFunc (fun x => !q x) true ⟨s.toArray⟩))))]) (q:=b2) (al:=[(.str s),(.fn 85 [] [(.ptr 0 0)])]) (al':=[(.str s),(.fn 85 [] [(.fp (.agg [(.clo a)]))])]) (h':=[]) (r:=(.int .i64 (Lib.idxFunc (fun x => !q x) true ⟨s.toArray⟩))) (by kernel_rfl) (by exact Tj) (by kernel_rfl) (Pr (some (b2=true∧b2=true)) (by kernel_rfl) fun cg=>hold (by(simp;omega))) (by kernel_rfl) (fun cg=>Q3f s 85 [.fp (.agg [.clo a])] (fun x => !q x) (by exact X0x) rfl (fun x hx=>Q7p x a q hx ha)) rfl (by kernel_rfl) ?_
 obtain⟨b3,hb3⟩:∃b,b=(b2&&(decide ((Lib.idxFunc (fun x => !q x) true ⟨s.toArray⟩) < 0))):=⟨_,rfl⟩
 refine Aw (CS:=[(8,(b2=true→b2=true)),(9,(b2=true→b2=true))]) 8 [15] [6] [] hk0 (vk 10 16 (a:=.bool (b2&&(decide ((Lib.idxFunc (fun x => !q x) true ⟨s.toArray⟩) < 0)))) (b:=.bool b3) (Imp.of_eq (by rw[hb3]))<|v0) (by refine cc _ ?_<|cc _ ?_ c0<;>simp) ?_
 refine Ac ?_
 refine RK wR [(.bool b3)] ?_
 subst hb3 hb2
 exact Same.of_eq (by first|rfl|(simp only[Ai];simp_all))
theorem X0c (s : List UInt8) (hl : s.length ≤ 9223372036854775807) :
  FnV Tryz.prog 89 [(.str s)] (.bool (!Ht s)):=by
 refine A1 [.tmp 2] Tryz.func89 rfl Tryz.ntmps89 rfl rfl (fun B F hF=>?_)
 refine Aa [] [0] ?_
 refine Ae (CS:=[(5,(!(!(A8 s 47)))=true→(!(!(A8 s 47)))=true),(6,((!(!(A8 s 47)))=true→(!(!(A8 s 47)))=true)),(7,((!(A8 s 47))=false→(!(!(A8 s 47)))=true))]) [7,9] [2] [] (hk 1 Jg (Kx s 47 hl)<|hkg 5 (!(!(A8 s 47))) Ji (fun cg=>Mf s hl)<|hk0) v0 (by refine cc _ ?_<|cc _ ?_<|cc _ ?_ c0<;>simp) ?_
 refine Ac ?_
 refine RK wR [(.bool ((!(A8 s 47))||(!(Bc s))))] ?_
 exact Same.of_eq (by simp only[Ai];congr 1;unfold Ht;cases A8 s 47<;>cases Bc s<;>rfl)
theorem X7q (p : PkgT) (hs : p.size ≤ 4194304) :
  FnV Tryz.prog 40 [(An p)] (.int .i64 (Cm p)):=by
 have hsz:=p.sizes
 have hfl:=Kk p.files
 refine A1 [.tmp 2] Tryz.func40 rfl Tryz.ntmps40 rfl rfl (fun B F hF=>?_)
 refine Ae [] [1] [(1,1)] hk0 v0 c0 ?_
 refine Aa [] [1,3] ?_
 refine Aa [] [1,3,4] ?_
 refine Aa [] [1,3,4,5] ?_
 refine Ae [] [1,3,4,5,7] [(8,6)] (hk 2 Nl (Qb p.evr (by omega))<|hk0) v0 c0 ?_
 refine Ab ?_
 refine Ax ?_
 refine Ae [] [1,3,4,5,7,14] [] (hk 2 Ji (Mf p.name (by omega))<|hk0) v0 c0 ?_
 refine Be (q:=!(Bc p.name)) (by kernel_rfl) (fun c1=>?_) (fun c1=>?_)
 ·try simp only[Ao] at c1
  refine Aa [] [2] ?_
  refine Ac ?_
  refine RK wR [(.int .i64 60)] ?_
  refine Same.of_eq ?_
  simp only[Ai]
  congr 1
  rw[←J6]
  unfold Ic
  simp_all
 ·try simp only[Ao] at c1
  refine Aa [] [1,3,4,5,19] ?_
  refine Dh (p:=(Bv p.evr)=0) (by kernel_rfl) (fun c2=>?_) (fun c2=>?_)
  ·refine Aa [] [2] ?_
   refine Ac ?_
   refine RK wR [(.int .i64 61)] ?_
   refine Same.of_eq ?_
   simp only[Ai]
   congr 1
   rw[←J6]
   unfold Ic
   simp_all
  ·refine Ab ?_
   refine Ar ?_
   obtain⟨b2,hb2⟩:∃b,b=(decide (p.arch=[])):=⟨_,rfl⟩
   refine Bm 8 0 [27,28,29,30] [1,4,5,26,27,29,30] [] hk0 (vk 4 26 (a:=.bool (decide (p.arch=[]))) (b:=.bool b2) (Imp.of_eq (by rw[hb2]))<|v0) (cc 6 (p:=((!b2)=true→(!b2)=true)) (by simp)<|c0) ?_
   refine X6d (s':=[(1,(.fp (An p))),(4,(.fn 82 [] [])),(5,(.fn 83 [] [])),(26,(.bool b2)),(27,(.cond (!b2) (.fn 83 [] []))),(29,(.cond (!b2) (.str p.arch))),(30,(.cond (!b2) (.fn 81 [] []))),(31,(.cond (!b2) (.bool (F8 p.arch 20 Er))))]) (q:=!b2) (al:=[(.str p.arch),(.int .i64 20),(.fn 81 [] [])]) (f:=83) (cap:=[]) (r:=(.bool (F8 p.arch 20 Er))) (by kernel_rfl) (fun cg => .inr ⟨!b2,by kernel_rfl,by first|exact cg|simp_all⟩) (by exact Z5) (by kernel_rfl) (Pr (some ((!b2)=true∧(!b2)=true)) (by kernel_rfl) fun cg=>hold (by(intros;simp_all;done))) (by kernel_rfl) (fun cg=>(Q2c p.arch 20 (.fn 81 [] []) Er (by omega) (fun x _=>FunV.of (by exact X0z) (Q4z x))).of_args (ImpL.cons Imp.refl (ImpL.cons Imp.refl (ImpL.cons (Imp.clo rfl) ImpL.nil)))) (by kernel_rfl) ?_
   refine Aw (CS:=[(9,((!b2)=true→(!b2)=true)),(10,(b2=false→(!b2)=true))]) 9 [32] [1,4,5,22] [] hk0 v0 (by refine cc _ ?_<|cc _ ?_ c0<;>simp) ?_
   refine Be (q:=b2||(!(F8 p.arch 20 Er))) (by kernel_rfl) (fun c3=>?_) (fun c3=>?_)
   ·subst hb2
    try simp only[Ao] at c3
    refine Aa [] [2] ?_
    refine Ac ?_
    refine RK wR [(.int .i64 62)] ?_
    refine Same.of_eq ?_
    simp only[Ai]
    congr 1
    rw[←J6]
    unfold Ic
    simp_all
   ·subst hb2
    try simp only[Ao] at c3
    refine Ab ?_
    refine Ar ?_
    refine Bm 4 0 [] [1,35,37,38] [] hk0 v0 c0 ?_
    refine X6e (f:=83) (cap:=[]) (s':=[(1,(.fp (An p))),(35,(.fn 83 [] [])),(37,(.str p.vendor)),(38,(.fn 82 [] [])),(39,(.bool (F8 p.vendor 60 E2)))]) (al:=[(.str p.vendor),(.int .i64 60),(.fn 82 [] [])]) (r:=(.bool (F8 p.vendor 60 E2))) (by kernel_rfl) (by kernel_rfl) (by exact Z5) (by kernel_rfl) (by kernel_rfl) ((Q2c p.vendor 60 (.fn 82 [] []) E2 (by omega) (fun x _=>FunV.of (by exact X0y) (Q5f x))).of_args (ImpL.cons Imp.refl (ImpL.cons Imp.refl (ImpL.cons (Imp.clo rfl) ImpL.nil)))) (by kernel_rfl) ?_
    refine Aw 5 [] [1,34] [] hk0 v0 c0 ?_
    refine Be (q:=!(F8 p.vendor 60 E2)) (by kernel_rfl) (fun c4=>?_) (fun c4=>?_)
    ·try simp only[Ao] at c4
     refine Aa [] [2] ?_
     refine Ac ?_
     refine RK wR [(.int .i64 63)] ?_
     refine Same.of_eq ?_
     simp only[Ai]
     congr 1
     rw[←J6]
     unfold Ic
     simp_all
    ·try simp only[Ao] at c4
     refine Ae [] [1,41] [] (hk 1 X0w (X2y p (by omega))<|hk0) v0 c0 ?_
     refine Be (q:=!(Fo p)) (by kernel_rfl) (fun c5=>?_) (fun c5=>?_)
     ·try simp only[Ao] at c5
      refine Aa [] [2] ?_
      refine Ac ?_
      refine RK wR [(.int .i64 64)] ?_
      refine Same.of_eq ?_
      simp only[Ai]
      congr 1
      rw[←J6]
      unfold Ic
      simp_all
     ·try simp only[Ao] at c5
      obtain⟨b3,hb3⟩:∃b,b=(decide (16 < (p.files.length:Int))):=⟨_,rfl⟩
      refine Ae (CS:=[(6,((!b3)=true→(!b3)=true)),(7,(!b3)=true→(!b3)=true),(8,(b3=false→(!b3)=true))]) [51,52] [45] [] (hkg 7 (!b3) (al:=[(B1 p.files),(.fn 89 [] [])]) X0v (fun cg=>(Q4o p.files (.fn 89 [] []) (fun x => !Ht x) (by omega) (fun i hi=>FunV.of (by exact X0u) (X0c (nth p.files i) (by have:=Te hi;omega)))).of_args (ImpL.cons Imp.refl (ImpL.cons (Imp.clo rfl) ImpL.nil)))<|hk0) (vk 5 50 (a:=.bool (decide (16 < (p.files.length:Int)))) (b:=.bool b3) (Imp.of_eq (by rw[hb3]))<|v0) (by refine cc _ ?_<|cc _ ?_<|cc _ ?_ c0<;>simp) ?_
      refine Be (q:=b3||(Qr p.files)) (by kernel_rfl) (fun c6=>?_) (fun c6=>?_)
      ·subst hb3
       try simp only[Ao] at c6
       refine Aa [] [2] ?_
       refine Ac ?_
       refine RK wR [(.int .i64 65)] ?_
       refine Same.of_eq ?_
       simp only[Ai]
       congr 1
       rw[←J6]
       unfold Ic
       simp_all
      ·subst hb3
       try simp only[Ao] at c6
       refine Ah ?_
       refine Aa [] [2] ?_
       refine Ac ?_
       refine RK wR [(.int .i64 0)] ?_
       refine Same.of_eq ?_
       simp only[Ai]
       congr 1
       rw[←J6]
       unfold Ic
       simp_all
theorem Q6h (s : List UInt8) (hl : s.length ≤ 9223372036854775807) :
  FnV Tryz.prog 92 [(.str s)] (.bool (Ha s)):=by
 refine A1 [.tmp 2] Tryz.func92 rfl Tryz.ntmps92 rfl rfl (fun B F hF=>?_)
 refine Aa [] [0] ?_
 refine Ab ?_
 refine Aa [] [0,3] ?_
 refine Ax ?_
 refine B4 (fun g y=>∃(i:Nat),i≤s.length∧(∀j,j < i→Er (Ag s j).toNat=true)∧y=⟨[(0,(.str s)),(3,(.int .i64 ((i:Int))))],[],0⟩∧g=s.length-i) [0,3] 0 _ (by omega) ⟨0,(by omega),(by exact fun j hj=>by omega),(by kernel_rfl),rfl⟩ ?_
 rintro g1 y1 ⟨i,f1_1,f1_2,rfl,rfl⟩
 refine Ab ?_
 refine Aa [] [0,3,8] ?_
 refine Ba (p:=(i:Int) < (s.length:Int)) (by kernel_rfl) (fun c1=>?_) (fun c1=>?_)
 ·refine Ah ?_
  refine Ab ?_
  refine Ax ?_
  refine Ae [] [0,3,4] [] hk0 v0 (cc 2 (p:=(0≤(i:Int)∧i < s.length)) (by omega)<|c0) ?_
  obtain⟨b1,hb1⟩:∃b,b=(decide (((Ag s i).toNat:Int) < 97)):=⟨_,rfl⟩
  obtain⟨b2,hb2⟩:∃b,b=(b1||(decide (122 < ((Ag s i).toNat:Int)))):=⟨_,rfl⟩
  obtain⟨b3,hb3⟩:∃b,b=(b2&&((decide (((Ag s i).toNat:Int) < 48))||(decide (57 < ((Ag s i).toNat:Int))))):=⟨_,rfl⟩
  refine Ae (CS:=[(4,((!b1)=true→(!b1)=true)),(5,(b1=false→(!b1)=true)),(8,(b2=true→b2=true)),(9,(b2=true→b2=true)),(11,((b2&&(!(decide (((Ag s i).toNat:Int) < 48))))=true→(b2&&(!(decide (((Ag s i).toNat:Int) < 48))))=true)),(12,(b2=true→(b2=true)∧((decide (((Ag s i).toNat:Int) < 48))=false→(b2&&(!(decide (((Ag s i).toNat:Int) < 48))))=true))),(13,(b2=true→b2=true)),(16,(b3=true→b3=true)),(17,(b3=true→b3=true))]) [17,18,21,22,23,24,25,26,29,30] [0,3,31] [] hk0 (vk 3 16 (a:=.bool (decide (((Ag s i).toNat:Int) < 97))) (b:=.bool b1) (Imp.of_eq (by rw[hb1]))<|vk 6 19 (a:=.bool (b1||(decide (122 < ((Ag s i).toNat:Int))))) (b:=.bool b2) (Imp.of_eq (by rw[hb2]))<|vk 14 27 (a:=.bool (b2&&((decide (((Ag s i).toNat:Int) < 48))||(decide (57 < ((Ag s i).toNat:Int)))))) (b:=.bool b3) (Imp.of_eq (by rw[hb3]))<|v0) (by refine cc _ ?_<|cc _ ?_<|cc _ ?_<|cc _ ?_<|cc _ ?_<|cc _ ?_<|cc _ ?_<|cc _ ?_<|cc _ ?_ c0<;>(intros;simp_all;done)) ?_
  refine Be (q:=b3&&(!decide (((Ag s i).toNat:Int)=95))) (by kernel_rfl) (fun c2=>?_) (fun c2=>?_)
  ·subst hb3 hb2 hb1
   try simp only[Ao] at c2
   refine Aa [] [2] ?_
   refine Ac ?_
   refine RK wR [(.bool false)] ?_
   refine Same.of_eq ?_
   have:s.all (fun b=>Er b.toNat)=false:=Q2f (i:=i) (by omega) (by unfold Er;simp only[Bool.and_eq_false_iff,Bool.or_eq_false_iff,decide_eq_false_iff_not];omega)
   unfold Ha;rw[this,Bool.and_false];rfl
  ·subst hb3 hb2 hb1
   try simp only[Ao] at c2
   refine Ah ?_
   refine Ar ?_
   refine Aw 0 [] [0,3] [] hk0 v0 (cc 1 (p:=(-9223372036854775808≤(i:Int)+1∧(i:Int)+1≤9223372036854775807)) (by omega)<|c0) ?_
   refine⟨by kernel_rfl,_,?_,i+1,?_,?_,(by kernel_rfl),rfl⟩
   ·omega
   ·omega
   ·intro j hj
    by_cases h:j=i
    ·subst h;unfold Er;simp only[Bool.and_eq_true,Bool.or_eq_true,decide_eq_true_eq];omega
    ·exact f1_2 j (by omega)
 ·refine Bq ?_
  obtain⟨b4,hb4⟩:∃b,b=(decide (1≤(s.length:Int))):=⟨_,rfl⟩
  refine Ae (CS:=[(5,(b4=true→b4=true)),(6,(b4=true→b4=true)),(7,(b4=true→b4=true))]) [36,37,38] [2] [] hk0 (vk 4 35 (a:=.bool (decide (1≤(s.length:Int)))) (b:=.bool b4) (Imp.of_eq (by rw[hb4]))<|v0) (by refine cc _ ?_<|cc _ ?_<|cc _ ?_ c0<;>simp) ?_
  refine Ac ?_
  refine RK wR [(.bool (b4&&(decide ((s.length:Int)≤20))))] ?_
  subst hb4
  refine Same.of_eq ?_
  simp only[Ai]
  congr 1
  unfold Ha
  rw[Q2e (by omega) f1_2,show decide ((1:Int)≤(s.length:Int))=decide (1≤s.length) from decide_eq_decide.2 (by omega),show decide ((s.length:Int)≤20)=decide (s.length≤20) from decide_eq_decide.2 (by omega)]
  simp
theorem Q59 (s : List UInt8) (hl : s.length ≤ 9223372036854775807) :
  FnV Tryz.prog 93 [(.str s)] (.bool (Gv s)):=by
 refine A1 [.tmp 2] Tryz.func93 rfl Tryz.ntmps93 rfl rfl (fun B F hF=>?_)
 refine Aa [] [0] ?_
 refine Ab ?_
 refine Aa [] [0,3] ?_
 refine Ax ?_
 refine B4 (fun g y=>∃(i:Nat),i≤s.length∧(∀j,j < i→E2 (Ag s j).toNat=true)∧y=⟨[(0,(.str s)),(3,(.int .i64 ((i:Int))))],[],0⟩∧g=s.length-i) [0,3] 0 _ (by omega) ⟨0,(by omega),(by exact fun j hj=>by omega),(by kernel_rfl),rfl⟩ ?_
 rintro g1 y1 ⟨i,f1_1,f1_2,rfl,rfl⟩
 refine Ab ?_
 refine Aa [] [0,3,7] ?_
 refine Ba (p:=(i:Int) < (s.length:Int)) (by kernel_rfl) (fun c1=>?_) (fun c1=>?_)
 ·refine Ah ?_
  refine Ab ?_
  refine Ax ?_
  obtain⟨b1,hb1⟩:∃b,b=(decide (((Ag s i).toNat:Int) < 32)):=⟨_,rfl⟩
  refine Ae (CS:=[(2,(0≤(i:Int)∧i < s.length)),(7,((!b1)=true→((!b1)=true∧(!b1)=true)∧(0≤(i:Int)∧i < s.length))),(8,((!b1)=true→(!b1)=true)),(9,(b1=false→(!b1)=true))]) [15,16,17,18] [0,3,19] [] hk0 (vk 5 14 (a:=.bool (decide (((Ag s i).toNat:Int) < 32))) (b:=.bool b1) (Imp.of_eq (by rw[hb1]))<|v0) (by refine cc _ ?_<|cc _ ?_<|cc _ ?_<|cc _ ?_ c0<;>(intros;simp_all;done)) ?_
  refine Be (q:=b1||(decide (126 < ((Ag s i).toNat:Int)))) (by kernel_rfl) (fun c2=>?_) (fun c2=>?_)
  ·subst hb1
   try simp only[Ao] at c2
   refine Aa [] [2] ?_
   refine Ac ?_
   refine RK wR [(.bool false)] ?_
   refine Same.of_eq ?_
   have:s.all (fun b=>E2 b.toNat)=false:=Q2f (i:=i) (by omega) (by unfold E2;simp only[Bool.and_eq_false_iff,Bool.or_eq_false_iff,decide_eq_false_iff_not];omega)
   unfold Gv;rw[this];rfl
  ·subst hb1
   try simp only[Ao] at c2
   refine Ah ?_
   refine Ar ?_
   refine Aw 0 [] [0,3] [] hk0 v0 (cc 1 (p:=(-9223372036854775808≤(i:Int)+1∧(i:Int)+1≤9223372036854775807)) (by omega)<|c0) ?_
   refine⟨by kernel_rfl,_,?_,i+1,?_,?_,(by kernel_rfl),rfl⟩
   ·omega
   ·omega
   ·intro j hj
    by_cases h:j=i
    ·subst h;unfold E2;simp only[Bool.and_eq_true,Bool.or_eq_true,decide_eq_true_eq];omega
    ·exact f1_2 j (by omega)
 ·refine Bq ?_
  refine Aa [] [2] ?_
  refine Ac ?_
  refine RK wR [(.bool true)] ?_
  exact Same.of_eq (by unfold Gv;rw[Q2e (by omega) f1_2];rfl)
theorem Q6d (l : List (List UInt8)) (hl : Gk l ≤ 4194304) :
  FnV Tryz.prog 95 [(B1 l)] (.bool (Il l)):=by
 have hfl:=Kk l
 refine A1 [.tmp 2] Tryz.func95 rfl Tryz.ntmps95 rfl rfl (fun B F hF=>?_)
 refine Aa [] [0] ?_
 refine Ab ?_
 refine Aa [] [0,7] ?_
 refine Ba (p:=16 < (l.length:Int)) (by kernel_rfl) (fun c1=>?_) (fun c1=>?_)
 ·refine Aa [] [2] ?_
  refine Ac ?_
  refine RK wR [(.bool false)] ?_
  exact Same.of_eq (by unfold Il;rw[decide_eq_false (by omega)];rfl)
 ·refine Ah ?_
  refine Ab ?_
  refine Aa [] [0,3] ?_
  refine Ax ?_
  refine B4 (fun g y=>∃(i:Nat),i≤l.length∧(∀j,j < i→Ht (nth l j)=true)∧y=⟨[(0,(B1 l)),(3,(.int .i64 ((i:Int))))],[],0⟩∧g=l.length-i) [0,3] 0 _ (by omega) ⟨0,(by omega),(by exact fun j hj=>by omega),(by kernel_rfl),rfl⟩ ?_
  rintro g1 y1 ⟨i,f1_1,f1_2,rfl,rfl⟩
  refine Ab ?_
  refine Aa [] [0,3,11] ?_
  refine Ba (p:=(i:Int) < (l.length:Int)) (by kernel_rfl) (fun c2=>?_) (fun c2=>?_)
  ·refine Ah ?_
   refine Ab ?_
   refine Ax ?_
   refine Ae [] [0,3,4] [] (hk 4 Nn (O7 (nth l i) (by have:=Te (l:=l) (i:=i) (by omega);omega))<|hk0) v0 (cc 2 (p:=(0≤(i:Int)∧i < l.length)) (by omega)<|c0) ?_
   have qh1:(((!(!(Bc (nth l i))))=true→((!(!(Bc (nth l i))))=true∧(!(!(Bc (nth l i))))=true)∧(0≤(i:Int)∧i < l.length)))∧(((!(!(Bc (nth l i))))=true→(!(!(Bc (nth l i))))=true))∧(((!(!(Bc (nth l i))))=true→((!(!(Bc (nth l i))))=true)∧(0≤(0:Int)∧0 < (nth l i).length)))∧(((!(!(Bc (nth l i))))=true→(!(!(Bc (nth l i))))=true))∧(((!(Bc (nth l i)))=false→(!(!(Bc (nth l i))))=true)):=by
    have hp:=fun h=>Q77 (l:=nth l i) h;simp only[Bool.not_not,Bool.not_eq_false'];exact⟨fun hq=>⟨⟨hq,hq⟩,by omega,by omega⟩,fun hq=>hq,fun hq=>⟨hq,by omega,hp hq⟩,fun hq=>hq,fun hq=>hq⟩
   refine Ae [22,23,24,25,26,27] [0,3,28] [] hk0 v0 (cc 5 (p:=((!(!(Bc (nth l i))))=true→((!(!(Bc (nth l i))))=true∧(!(!(Bc (nth l i))))=true)∧(0≤(i:Int)∧i < l.length))) qh1.1<|cc 6 (p:=((!(!(Bc (nth l i))))=true→(!(!(Bc (nth l i))))=true)) qh1.2.1<|cc 7 (p:=((!(!(Bc (nth l i))))=true→((!(!(Bc (nth l i))))=true)∧(0≤(0:Int)∧0 < (nth l i).length))) qh1.2.2.1<|cc 8 (p:=((!(!(Bc (nth l i))))=true→(!(!(Bc (nth l i))))=true)) qh1.2.2.2.1<|cc 9 (p:=((!(Bc (nth l i)))=false→(!(!(Bc (nth l i))))=true)) qh1.2.2.2.2<|c0) ?_
   refine Be (q:=(!(Bc (nth l i)))||(!decide (((Ag (nth l i) 0).toNat:Int)=47))) (by kernel_rfl) (fun c3=>?_) (fun c3=>?_)
   ·try simp only[Ao] at c3
    refine Aa [] [2] ?_
    refine Ac ?_
    refine RK wR [(.bool false)] ?_
    refine Same.of_eq ?_
    unfold Il
    have:l.all Ht=false:=by
     cases hq:l.all Ht with
     |false=>rfl
     |true=>have h1:=all_nth.1 hq i (by omega);rw[Zz] at h1;simp_all
    rw[this,Bool.and_false];rfl
   ·try simp only[Ao] at c3
    refine Ah ?_
    refine Ar ?_
    refine Aw 0 [] [0,3] [] hk0 v0 (cc 1 (p:=(-9223372036854775808≤(i:Int)+1∧(i:Int)+1≤9223372036854775807)) (by omega)<|c0) ?_
    refine⟨by kernel_rfl,_,?_,i+1,?_,?_,(by kernel_rfl),rfl⟩
    ·omega
    ·omega
    ·intro j hj
     by_cases h:j=i
     ·subst h;rw[Zz];simp_all
     ·exact f1_2 j (by omega)
  ·refine Bq ?_
   refine Aa [] [2] ?_
   refine Ac ?_
   refine RK wR [(.bool true)] ?_
   exact Same.of_eq (by unfold Il;rw[all_nth.2 (fun j hj=>f1_2 j (by omega)),decide_eq_true (by omega)];rfl)
theorem Q6f (p : PkgT) (hs : p.size ≤ 4194304) :
  FnV Tryz.prog 41 [(An p)] (.int .i64 (Cm p)):=by
 have hsz:=p.sizes
 refine A1 [.tmp 2] Tryz.func41 rfl Tryz.ntmps41 rfl rfl (fun B F hF=>?_)
 refine Ae [] [1] [(1,1)] hk0 v0 c0 ?_
 refine Ae [] [1,3] [] (hk 2 Nn (O7 p.name (by omega))<|hk0) v0 c0 ?_
 refine Ab ?_
 refine Aa [] [1,14] ?_
 refine Be (q:=!(Bc p.name)) (by kernel_rfl) (fun c1=>?_) (fun c1=>?_)
 ·try simp only[Ao] at c1
  refine Aa [] [2] ?_
  refine Ac ?_
  refine RK wR [(.int .i64 60)] ?_
  refine Same.of_eq ?_
  simp only[Ai]
  congr 1
  rw[←J5]
  unfold Ib
  simp_all
 ·try simp only[Ao] at c1
  refine Ah ?_
  refine Ae [] [1,5] [(8,4)] (hk 2 Ti (Wk p.evr (by omega))<|hk0) v0 c0 ?_
  refine Ab ?_
  refine Aa [] [1,22] ?_
  refine Dh (p:=(Bv p.evr)=0) (by kernel_rfl) (fun c2=>?_) (fun c2=>?_)
  ·refine Aa [] [2] ?_
   refine Ac ?_
   refine RK wR [(.int .i64 61)] ?_
   refine Same.of_eq ?_
   simp only[Ai]
   congr 1
   rw[←J5]
   unfold Ib
   simp_all
  ·refine Ah ?_
   refine Ae [] [1,6] [] (hk 2 X0s (Q6h p.arch (by omega))<|hk0) v0 c0 ?_
   refine Ab ?_
   refine Aa [] [1,27] ?_
   refine Be (q:=!(Ha p.arch)) (by kernel_rfl) (fun c3=>?_) (fun c3=>?_)
   ·try simp only[Ao] at c3
    refine Aa [] [2] ?_
    refine Ac ?_
    refine RK wR [(.int .i64 62)] ?_
    refine Same.of_eq ?_
    simp only[Ai]
    congr 1
    rw[←J5]
    unfold Ib
    simp_all
   ·try simp only[Ao] at c3
    refine Ah ?_
    refine Ae [] [1,7] [] (hk 2 X0r (Q59 p.vendor (by omega))<|hk0) v0 c0 ?_
    refine Ab ?_
    obtain⟨b1,hb1⟩:∃b,b=(!(Gv p.vendor)):=⟨_,rfl⟩
    refine Ae (CS:=[(4,((!b1)=true→(!b1)=true)),(5,((!b1)=true→(!b1)=true)),(6,((!b1)=true→(!b1)=true)),(7,(b1=false→(!b1)=true))]) [34,35,36,37] [1,38] [] hk0 (vk 3 33 (a:=.bool (!(Gv p.vendor))) (b:=.bool b1) (Imp.of_eq (by rw[hb1]))<|v0) (by refine cc _ ?_<|cc _ ?_<|cc _ ?_<|cc _ ?_ c0<;>simp) ?_
    refine Be (q:=b1||(decide (60 < (p.vendor.length:Int)))) (by kernel_rfl) (fun c4=>?_) (fun c4=>?_)
    ·subst hb1
     try simp only[Ao] at c4
     refine Aa [] [2] ?_
     refine Ac ?_
     refine RK wR [(.int .i64 63)] ?_
     refine Same.of_eq ?_
     simp only[Ai]
     congr 1
     rw[←J5]
     unfold Ib
     simp_all
    ·subst hb1
     try simp only[Ao] at c4
     refine Ah ?_
     refine Ae [] [1,8] [] (hk 1 X0q (Q6e p (by omega))<|hk0) v0 c0 ?_
     refine Ab ?_
     refine Aa [] [1,42] ?_
     refine Be (q:=!(Fo p)) (by kernel_rfl) (fun c5=>?_) (fun c5=>?_)
     ·try simp only[Ao] at c5
      refine Aa [] [2] ?_
      refine Ac ?_
      refine RK wR [(.int .i64 64)] ?_
      refine Same.of_eq ?_
      simp only[Ai]
      congr 1
      rw[←J5]
      unfold Ib
      simp_all
     ·try simp only[Ao] at c5
      refine Ah ?_
      refine Ae [] [9] [] (hk 2 X0p (Q6d p.files (by omega))<|hk0) v0 c0 ?_
      refine Ab ?_
      refine Aa [] [47] ?_
      refine Be (q:=!(Il p.files)) (by kernel_rfl) (fun c6=>?_) (fun c6=>?_)
      ·try simp only[Ao] at c6
       refine Aa [] [2] ?_
       refine Ac ?_
       refine RK wR [(.int .i64 65)] ?_
       refine Same.of_eq ?_
       simp only[Ai]
       congr 1
       rw[←J5]
       unfold Ib
       simp_all
      ·try simp only[Ao] at c6
       refine Ah ?_
       refine Aa [] [2] ?_
       refine Ac ?_
       refine RK wR [(.int .i64 0)] ?_
       refine Same.of_eq ?_
       simp only[Ai]
       congr 1
       rw[←J5]
       unfold Ib
       simp_all
end Sv
end
section
open Go Go.RowKit
namespace Sv
attribute [local irreducible] SW SO Bh
set_option maxHeartbeats 1000000
set_option maxRecDepth 100000
theorem X1w:Aj Tryz.prog 19:=Ap Tryz.func19 (by kernel_rfl) rfl
theorem X1n:Aj Tryz.prog 38:=Ap Tryz.func38 (by kernel_rfl) rfl
theorem X1m:Aj Tryz.prog 39:=Ap Tryz.func39 (by kernel_rfl) rfl
noncomputable def A4 (r:RepoT):AV:=.agg [.str r.name,.int .i64 r.prio,.bool r.inst,.nils]
noncomputable def A7 (k:PkgT × Int):AV:=.agg [.str k.1.name,.str k.1.evr,.str k.1.arch,.str k.1.vendor,C0 k.1.provides,C0 k.1.requires,C0 k.1.pre,C0 k.1.conflicts,C0 k.1.obsoletes,C0 k.1.recommends,C0 k.1.supplements,B1 k.1.files,.int .i64 k.2]
structure PoolT where
 kind:Int
 repos:List RepoT
 all:List (PkgT × Int)
 deriving Inhabited
def Jd (l:List PkgT):Int:=match l.find? (fun p=>decide (Cm p≠0)) with
 |some p=>Cm p
 |none=>0
def B9 (st:PoolT) (r:RepoT):Int :=
 if Bc r.name=false∨st.repos.any (fun o=>decide (o.name=r.name))=true then 66
 else if r.inst=true∧st.repos.any (fun o=>o.inst)=true then 67
 else if 8≤st.repos.length∨200 < st.all.length+r.pkgs.length then 68
 else Jd r.pkgs
def Aq (st:PoolT) (r:RepoT) (i:Nat):List (PkgT × Int):=st.all++(r.pkgs.take i).map fun p=>(p,(st.repos.length:Int))
def B3 (st:PoolT) (r:RepoT):PoolT:=if B9 st r=0 then ⟨st.kind,st.repos++[r],Aq st r r.pkgs.length⟩ else st
def My (l:List (PkgT × Int)) (s:List UInt8):List Nat:=(List.range l.length).filter fun i=>decide ((nth l i).1.name=s)
noncomputable def A3 (l:List (PkgT × Int)) (s:List UInt8):List AV:=(My l s).map fun (i:Nat)=>AV.int .i64 (i:Int)
theorem Iv {st:PoolT} {r:RepoT} {e:Int} (h:B9 st r=e) (he:e≠0):B3 st r=st:=by unfold B3;rw[if_neg (by rw[h];exact he)]
theorem Zy {l:List PkgT} (h:∀j,j < l.length→Cm (nth l j)=0):Jd l=0:=by
 unfold Jd
 rw[List.find?_eq_none.2]
 intro x hx
 obtain⟨j,hj,rfl⟩:=List.getElem_of_mem hx
 have:=h j hj
 simpa [nth,hj] using this
theorem Tc:∀{l:List PkgT} {i:Nat},i < l.length→(∀j,j < i→Cm (nth l j)=0)→Cm (nth l i)≠0→Jd l=Cm (nth l i)
 |[],_,h,_,_=>by simp at h
 |x::r,0,_,_,h=>by
  have h:Cm x≠0:=h
  unfold Jd;rw[List.find?_cons_of_pos (by simpa using h)];rfl
 |x::r,i+1,hi,h,hp=>by
  have h0:Cm x=0:=h 0 (by omega)
  have:=Tc (l:=r) (i:=i) (by simpa using hi) (fun j hj=>h (j+1) (by omega)) hp
  unfold Jd at this ⊢
  rw[List.find?_cons_of_neg (by simp[h0])];exact this
theorem Q83 {st:PoolT} {r:RepoT} {i:Nat} (h:i < r.pkgs.length):Aq st r (i+1)=Aq st r i++[(nth r.pkgs i,(st.repos.length:Int))]:=by
 unfold Aq
 rw[List.take_add_one,List.getElem?_eq_getElem h,List.map_append,List.append_assoc]
 simp[nth,h]
theorem Q84 {st:PoolT} {r:RepoT} {i:Nat}:(Aq st r i).length≤st.all.length+i:=by unfold Aq;simp;omega
theorem Ya (l:List (PkgT × Int)) (k:PkgT × Int):Di (A3 l) k.1.name (A3 l k.1.name++[.int .i64 (l.length:Int)])=A3 (l++[k]):=by
 funext s
 have e:My (l++[k]) s=My l s++(if k.1.name=s then [l.length] else []):=by
  unfold My
  rw[List.length_append,List.length_singleton,List.range_succ,List.filter_append]
  congr 1
  ·refine List.filter_congr fun i hi=>?_
   have:i < l.length:=by simpa using hi
   have:nth (l++[k]) i=nth l i:=by simp[nth,List.getElem?_append_left this]
   rw[this]
  ·have:nth (l++[k]) l.length=k:=by simp[nth]
   by_cases h:k.1.name=s<;>simp[this,h]
 unfold Di A3
 rw[e]
 by_cases h:s=k.1.name
 ·subst h;rw[if_pos rfl,if_pos rfl,List.map_append];rfl
 ·rw[if_neg h,if_neg (fun q=>h q.symm),List.append_nil]
theorem Q74 (l:List (PkgT × Int)) (s:List UInt8):(A3 l s).length≤l.length:=by
 unfold A3 My
 rw[List.length_map]
 exact Nat.le_trans (List.length_filter_le _ _) (by simp)
theorem Q56 (l : List RepoT) (a : AV) (p : RepoT → Bool) (hl : l.length ≤ 4611686018427387904) (ha : ∀ i, i < l.length → FunV Tryz.prog a [(.agg [(.str ((nth l i).name)), (.int .i64 ((nth l i).prio)), (.bool ((nth l i).inst)), .nils])] (.bool (p (nth l i)))) :
  FnV Tryz.prog 80 [(Af 4 A4 l),(.clo a)] (.int .i64 (Ed p l)):=by
 refine A1 [.tmp 4] Tryz.func80 rfl Tryz.ntmps80 rfl rfl (fun B F hF=>?_)
 refine Aa [] [0,1] ?_
 refine Ab ?_
 refine Aa [] [0,1,7,8] ?_
 refine Ax ?_
 refine B4 (fun g y=>∃(i:Nat),i≤l.length∧(∀j,j < i→p (nth l j)=false)∧y=⟨[(0,(Af 4 A4 l)),(1,(.clo a)),(7,(.int .i64 ((l.length:Int)))),(8,(.int .i64 ((i:Int))))],[],0⟩∧g=l.length-i) [0,1,7,8] 0 _ (by omega) ⟨0,(by omega),(by exact fun j hj=>by omega),(by kernel_rfl),rfl⟩ ?_
 rintro g1 y1 ⟨i,f1_1,f1_2,rfl,rfl⟩
 refine Aa [] [0,1,7,8,9] ?_
 refine Ab ?_
 refine Ba (p:=(i:Int) < (l.length:Int)) (by kernel_rfl) (fun c1=>?_) (fun c1=>?_)
 ·refine Ah ?_
  refine Ab ?_
  refine Ax ?_
  refine Aa [] [0,1,5,7,8] ?_
  refine Ab ?_
  refine Ar ?_
  refine Bm 5 0 [] [0,1,5,7,8,11,15] [] hk0 v0 (cc 3 (p:=(0≤(i:Int)∧i < l.length)) (by omega)<|c0) ?_
  refine Fq (s':=[(0,(Af 4 A4 l)),(1,(.clo a)),(5,(.int .i64 ((i:Int)))),(7,(.int .i64 ((l.length:Int)))),(8,(.int .i64 ((i:Int)))),(11,(.clo a)),(15,(.agg [(.str ((nth l i).name)),(.int .i64 ((nth l i).prio)),(.bool ((nth l i).inst)),.nils])),(16,(.bool (p (nth l i))))]) (a:=(.clo a)) (al:=[(.agg [(.str ((nth l i).name)),(.int .i64 ((nth l i).prio)),(.bool ((nth l i).inst)),.nils])]) (r:=(.bool (p (nth l i)))) (by kernel_rfl) (by kernel_rfl) (by kernel_rfl) (by kernel_rfl) (by kernel_rfl) ((ha i (by omega)).clo) (by kernel_rfl) ?_
  refine Bo ?_
  refine Be (q:=p (nth l i)) (by kernel_rfl) (fun c2=>?_) (fun c2=>?_)
  ·try simp only[Ao] at c2
   refine Aa [] [4] ?_
   refine Ac ?_
   refine RK wR [(.int .i64 ((i:Int)))] ?_
   exact Same.of_eq (by rw[Lw (by omega) f1_2 (by simp_all)];rfl)
  ·try simp only[Ao] at c2
   refine Ah ?_
   refine Ar ?_
   refine Aw 0 [] [0,1,7,8] [] hk0 v0 (cc 0 (p:=(-9223372036854775808≤(i:Int)+1∧(i:Int)+1≤9223372036854775807)) (by omega)<|c0) ?_
   refine⟨by kernel_rfl,_,?_,i+1,?_,?_,(by kernel_rfl),rfl⟩
   ·omega
   ·omega
   ·intro j hj
    by_cases h:j=i
    ·subst h;simp_all
    ·exact f1_2 j (by omega)
 ·refine Bq ?_
  refine Aa [] [4] ?_
  refine Ac ?_
  refine RK wR [(.int .i64 (-1))] ?_
  exact Same.of_eq (by rw[Lv (fun j hj=>f1_2 j (by omega))];rfl)
theorem Wi (l : List RepoT) (a : AV) (p : RepoT → Bool) (hl : l.length ≤ 4611686018427387904) (ha : ∀ i, i < l.length → FunV Tryz.prog a [(.agg [(.str ((nth l i).name)), (.int .i64 ((nth l i).prio)), (.bool ((nth l i).inst)), .nils])] (.bool (p (nth l i)))) :
  FnV Tryz.prog 37 [(Af 4 A4 l),(.clo a)] (.bool (l.any p)):=by
 refine A1 [.tmp 4] Tryz.func37 rfl Tryz.ntmps37 rfl rfl (fun B F hF=>?_)
 refine Aa [] [0,1] ?_
 refine Ae [] [4] [] (hk 2 X00 (Q56 l a p hl ha)<|hk0) v0 c0 ?_
 refine Ac ?_
 refine RK wR [(.bool (decide (0≤(Ed p l))))] ?_
 exact Same.of_eq (by simp only[Ai];rw[Lx])
theorem Q5q (o r : RepoT) :
  FnV Tryz.prog 38 [(.agg [(.str o.name),(.int .i64 o.prio),(.bool o.inst),.nils]),(.fp (.agg [(.str r.name),(.int .i64 r.prio),(.bool r.inst),(Af 12 An r.pkgs)]))] (.bool (decide (o.name=r.name))):=by
 refine A1 [.tmp 3] Tryz.func38 rfl Tryz.ntmps38 rfl rfl (fun B F hF=>?_)
 refine Ae [] [1,2] [(1,2)] hk0 v0 c0 ?_
 refine Aa [] [3] ?_
 refine Ac ?_
 refine RK wR [(.bool (decide (o.name=r.name)))] ?_
 exact Same.of_eq (by first|rfl|(simp only[Ai];simp_all))
theorem Q9g (o : RepoT) :
  FnV Tryz.prog 39 [(.agg [(.str o.name),(.int .i64 o.prio),(.bool o.inst),.nils])] (.bool o.inst):=by
 refine A1 [.tmp 2] Tryz.func39 rfl Tryz.ntmps39 rfl rfl (fun B F hF=>?_)
 refine Ae [] [1] [(1,1)] hk0 v0 c0 ?_
 refine Aa [] [2] ?_
 refine Ac ?_
 refine RK wR [(.bool o.inst)] ?_
 exact Same.of_eq (by first|rfl|(simp only[Ai];simp_all))
theorem X7t (st : PoolT) (r : RepoT) (hr : st.repos.length ≤ 8) (ha : st.all.length ≤ 200) (hn : r.name.length ≤ 4194304) (hpl : r.pkgs.length ≤ 4194304) (hp : ∀ i, i < r.pkgs.length → (nth r.pkgs i).size ≤ 4194304) :
  Fc Tryz.prog 19 [(.ptr 0 0),(.agg [(.str r.name),(.int .i64 r.prio),(.bool r.inst),(Af 12 An r.pkgs)])] [(0,(.row [(.int .i64 st.kind),(.own 1),(.own 2),(.map 3)] 75)),(1,(.grow (st.repos.map A4) 59 4)),(2,(.grow (st.all.map A7) 78 13)),(3,(.mm (A3 st.all) none 3 1))] 4 (.int .i64 (B9 st r)) [(0,(.row [(.int .i64 ((B3 st r).kind)),(.own 1),(.own 2),(.map 3)] 75)),(1,(.grow ((B3 st r).repos.map A4) 59 4)),(2,(.grow ((B3 st r).all.map A7) 78 13)),(3,(.mm (A3 (B3 st r).all) none 3 1))]:=by
 have hml:(st.repos.map A4).length=st.repos.length:=List.length_map _
 have hma:(st.all.map A7).length=st.all.length:=List.length_map _
 refine Kz [.tmp 4] Tryz.func19 rfl Tryz.ntmps19 rfl rfl (by kernel_rfl) (by kernel_rfl) (by kernel_rfl) (fun B F hF=>?_)
 refine Aa [] [0,3] ?_
 refine Ab ?_
 refine Ax ?_
 refine Aa [] [0,3,10] ?_
 refine Dp (by kernel_rfl) ?_
 refine Ab ?_
 refine Ar ?_
 obtain⟨b2,hb2⟩:∃b,b=(!(Bc r.name)):=⟨_,rfl⟩
 refine Bm (CS:=[(6,((!b2)=true→(!b2)=true)),(7,((!b2)=true→(!b2)=true)),(8,((!b2)=true→(!b2)=true))]) 10 0 [19,20,21,22,23] [0,3,18,22,23] [] (hk 2 Ji (Mf r.name (by omega))<|hk0) (vk 5 18 (a:=.bool (!(Bc r.name))) (b:=.bool b2) (Imp.of_eq (by rw[hb2]))<|v0) (by refine cc _ ?_<|cc _ ?_<|cc _ ?_ c0<;>simp) ?_
 refine Up (s':=[(0,(.ptr 0 0)),(3,(.ptr 4 0)),(18,(.bool b2)),(22,(.cond (!b2) (.own 1))),(23,(.cond (!b2) (.fn 38 [] [(.ptr 4 0)]))),(24,(.cond (!b2) (.bool (st.repos.any (fun o=>decide (o.name=r.name))))))]) (q:=!b2) (al:=[(.own 1),(.fn 38 [] [(.ptr 4 0)])]) (al':=[(.row 4 (st.repos.map A4).length (fun ix=>(st.repos.map A4).getD ix Bl)),(.fn 38 [] [(.fp (.agg [(.str r.name),(.int .i64 r.prio),(.bool r.inst),(Af 12 An r.pkgs)]))])]) (h':=[(0,(.row [(.int .i64 st.kind),(.own 1),(.own 2),(.map 3)] 75)),(2,(.grow (st.all.map A7) 78 13)),(3,(.mm (A3 st.all) none 3 1))]) (r:=(.bool (st.repos.any (fun o=>decide (o.name=r.name))))) (by kernel_rfl) (by exact Q0d) (by kernel_rfl) (Pr (some ((!b2)=true∧(!b2)=true)) (by kernel_rfl) fun cg=>hold (by(intros;simp_all;done))) (by kernel_rfl) (fun cg=>(Wi st.repos (.fn 38 [] [.fp (.agg [(.str r.name),(.int .i64 r.prio),(.bool r.inst),(Af 12 An r.pkgs)])]) (fun o=>decide (o.name=r.name)) (by omega) (fun i hi=>FunV.of (by exact X1n) (Q5q (nth st.repos i) r))).of_args (ImpL.cons (Imp.list (f:=A4) (List.length_map _)) (ImpL.cons (Imp.clo (by kernel_rfl)) ImpL.nil))) rfl (by kernel_rfl) ?_
 obtain⟨b3,hb3⟩:∃b,b=(b2||(st.repos.any (fun o=>decide (o.name=r.name)))):=⟨_,rfl⟩
 refine Aw 11 [] [0,3,13] [] hk0 (vk 12 25 (a:=.bool (b2||(st.repos.any (fun o=>decide (o.name=r.name))))) (b:=.bool b3) (Imp.of_eq (by rw[hb3]))<|v0) (cc 11 (p:=(b2=false→(!b2)=true)) (by simp)<|c0) ?_
 refine Be (q:=b3) (by kernel_rfl) (fun c1=>?_) (fun c1=>?_)
 ·subst hb3 hb2
  try simp only[Ao] at c1
  refine Aa [] [4] ?_
  refine Ac ?_
  refine D0 (.inl rfl) (al:=[(.int .i64 66)]) (by kernel_rfl) ?_ ((by kernel_rfl:Cj 4 _=some [(0,(.row [(.int .i64 st.kind),(.own 1),(.own 2),(.map 3)] 75)),(1,(.grow (st.repos.map A4) 59 4)),(2,(.grow (st.all.map A7) 78 13)),(3,(.mm (A3 st.all) none 3 1))]).trans ?_)
  all_goals have hE:B9 st r=66:=by unfold B9;rw[if_pos c1]
  ·rw[hE];rfl
  ·rw[Iv hE (by decide)]
 ·subst hb3 hb2
  try simp only[Ao] at c1
  refine Ab ?_
  refine Ar ?_
  refine Bm (CS:=[(4,(r.inst=true→r.inst=true)),(5,(r.inst=true→r.inst=true)),(6,(r.inst=true→r.inst=true))]) 7 0 [30,31,32,33] [0,3,29,33] [] hk0 v0 (by refine cc _ ?_<|cc _ ?_<|cc _ ?_ c0<;>simp) ?_
  refine Up (s':=[(0,(.ptr 0 0)),(3,(.ptr 4 0)),(29,(.bool r.inst)),(33,(.cond r.inst (.own 1))),(34,(.cond r.inst (.bool (st.repos.any (fun o=>o.inst)))))]) (q:=r.inst) (al:=[(.own 1),(.fn 39 [] [])]) (al':=[(.row 4 (st.repos.map A4).length (fun ix=>(st.repos.map A4).getD ix Bl)),(.fn 39 [] [])]) (h':=[(0,(.row [(.int .i64 st.kind),(.own 1),(.own 2),(.map 3)] 75)),(2,(.grow (st.all.map A7) 78 13)),(3,(.mm (A3 st.all) none 3 1)),(4,(.row [(.str r.name),(.int .i64 r.prio),(.bool r.inst),(Af 12 An r.pkgs)] 59))]) (r:=(.bool (st.repos.any (fun o=>o.inst)))) (by kernel_rfl) (by exact Q0d) (by kernel_rfl) (Pr (some (r.inst=true)) (by kernel_rfl) fun cg=>hold (by omega)) (by kernel_rfl) (fun cg=>(Wi st.repos (.fn 39 [] []) (fun o=>o.inst) (by omega) (fun i hi=>FunV.of (by exact X1m) (Q9g (nth st.repos i)))).of_args (ImpL.cons (Imp.list (f:=A4) (List.length_map _)) (ImpL.cons (Imp.clo (by kernel_rfl)) ImpL.nil))) rfl (by kernel_rfl) ?_
  refine Aw 8 [] [0,3,26] [] hk0 v0 (cc 8 (p:=(r.inst=true→r.inst=true)) (by simp)<|c0) ?_
  refine Be (q:=r.inst&&(st.repos.any (fun o=>o.inst))) (by kernel_rfl) (fun c2=>?_) (fun c2=>?_)
  ·try simp only[Ao] at c2
   refine Aa [] [4] ?_
   refine Ac ?_
   refine D0 (.inl rfl) (al:=[(.int .i64 67)]) (by kernel_rfl) ?_ ((by kernel_rfl:Cj 4 _=some [(0,(.row [(.int .i64 st.kind),(.own 1),(.own 2),(.map 3)] 75)),(1,(.grow (st.repos.map A4) 59 4)),(2,(.grow (st.all.map A7) 78 13)),(3,(.mm (A3 st.all) none 3 1))]).trans ?_)
   all_goals have hE:B9 st r=67:=by unfold B9;rw[if_neg (by simp only[not_or];simp_all),if_pos (by simp_all)]
   ·rw[hE];rfl
   ·rw[Iv hE (by decide)]
  ·try simp only[Ao] at c2
   refine Db (fun y=>y=⟨[(0,(.ptr 0 0)),(3,(.ptr 4 0)),(36,(.bool (decide ((8:Int)≤((st.repos.map A4).length:Int))||decide ((200:Int) < ((st.all.map A7).length:Int)+(r.pkgs.length:Int)))))],[(0,(.row [(.int .i64 st.kind),(.own 1),(.own 2),(.map 3)] 75)),(1,(.grow (st.repos.map A4) 59 4)),(2,(.grow (st.all.map A7) 78 13)),(3,(.mm (A3 st.all) none 3 1)),(4,(.row [(.str r.name),(.int .i64 r.prio),(.bool r.inst),(Af 12 An r.pkgs)] 59))],5⟩) [0,3,36] 5 (by omega) ?_ ?_
   ·refine Gr (CS:=[(8,((!(decide (8≤((st.repos.map A4).length:Int))))=true→(!(decide (8≤((st.repos.map A4).length:Int))))=true)),(9,((!(decide (8≤((st.repos.map A4).length:Int))))=true→(!(decide (8≤((st.repos.map A4).length:Int))))=true)),(10,((!(decide (8≤((st.repos.map A4).length:Int))))=true→(!(decide (8≤((st.repos.map A4).length:Int))))=true)),(11,((!(decide (8≤((st.repos.map A4).length:Int))))=true→(!(decide (8≤((st.repos.map A4).length:Int))))=true)),(13,((!(decide (8≤((st.repos.map A4).length:Int))))=true→(!(decide (8≤((st.repos.map A4).length:Int))))=true)),(14,((!(decide (8≤((st.repos.map A4).length:Int))))=true→(!(decide (8≤((st.repos.map A4).length:Int))))=true)),(15,((!(decide (8≤((st.repos.map A4).length:Int))))=true→((!(decide (8≤((st.repos.map A4).length:Int))))=true∧(!(decide (8≤((st.repos.map A4).length:Int))))=true)∧(-9223372036854775808≤((st.all.map A7).length:Int)+(r.pkgs.length:Int)∧((st.all.map A7).length:Int)+(r.pkgs.length:Int)≤9223372036854775807))),(16,((!(decide (8≤((st.repos.map A4).length:Int))))=true→(!(decide (8≤((st.repos.map A4).length:Int))))=true)),(17,((decide (8≤((st.repos.map A4).length:Int)))=false→(!(decide (8≤((st.repos.map A4).length:Int))))=true))]) [44,45,46,47,48,49,50,51,52,53] [0,3,36] [] hk0 v0 (by refine cc _ ?_<|cc _ ?_<|cc _ ?_<|cc _ ?_<|cc _ ?_<|cc _ ?_<|cc _ ?_<|cc _ ?_<|cc _ ?_ c0<;>first|omega|(simp;omega)|(simp;done)|(intros;simp_all;omega)|(intros;simp_all;done)) ?_
    refine⟨by kernel_rfl,(by kernel_rfl)⟩
   ·rintro y1 rfl
    refine Be (q:=decide ((8:Int)≤((st.repos.map A4).length:Int))||decide ((200:Int) < ((st.all.map A7).length:Int)+(r.pkgs.length:Int))) (by kernel_rfl) (fun c3=>?_) (fun c3=>?_)
    ·try simp only[Ao] at c3
     refine Aa [] [4] ?_
     refine Ac ?_
     refine D0 (.inl rfl) (al:=[(.int .i64 68)]) (by kernel_rfl) ?_ ((by kernel_rfl:Cj 4 _=some [(0,(.row [(.int .i64 st.kind),(.own 1),(.own 2),(.map 3)] 75)),(1,(.grow (st.repos.map A4) 59 4)),(2,(.grow (st.all.map A7) 78 13)),(3,(.mm (A3 st.all) none 3 1))]).trans ?_)
     all_goals have hE:B9 st r=68:=by unfold B9;rw[if_neg (by simp only[not_or];simp_all),if_neg (by rintro⟨h1,h2⟩;rw[h1,h2] at c2;simp at c2),if_pos (by omega)]
     ·rw[hE];rfl
     ·rw[Iv hE (by decide)]
    ·try simp only[Ao] at c3
     refine Ah ?_
     refine Ab ?_
     refine Aa [] [0,3,56,57,58] ?_
     refine Ax ?_
     refine B4 (fun g y=>∃(i:Nat),i≤r.pkgs.length∧(∀j,j < i→Cm (nth r.pkgs j)=0)∧y=⟨[(0,(.ptr 0 0)),(3,(.ptr 4 0)),(56,(Af 12 An r.pkgs)),(57,(.int .i64 ((r.pkgs.length:Int)))),(58,(.int .i64 ((i:Int))))],[(0,(.row [(.int .i64 st.kind),(.own 1),(.own 2),(.map 3)] 75)),(1,(.grow (st.repos.map A4) 59 4)),(2,(.grow (st.all.map A7) 78 13)),(3,(.mm (A3 st.all) none 3 1)),(4,(.row [(.str r.name),(.int .i64 r.prio),(.bool r.inst),(Af 12 An r.pkgs)] 59))],5⟩∧g=r.pkgs.length-i) [0,3,56,57,58] 5 _ (by omega) ⟨0,(by omega),(by exact fun j hj=>by omega),(by kernel_rfl),rfl⟩ ?_
     rintro g1 y1 ⟨i,f1_1,f1_2,rfl,rfl⟩
     refine Aa [] [0,3,56,57,58,59] ?_
     refine Ab ?_
     refine Ba (p:=(i:Int) < (r.pkgs.length:Int)) (by kernel_rfl) (fun c4=>?_) (fun c4=>?_)
     ·refine Ah ?_
      refine Ab ?_
      refine Ax ?_
      refine Ae [] [0,3,6,56,57,58] [] hk0 v0 (cc 0 (p:=(0≤(i:Int)∧i < r.pkgs.length)) (by omega)<|c0) ?_
      refine Ae [] [0,3,7,56,57,58] [(0,6)] (hk 1 X1l (X7q (nth r.pkgs i) (hp i (by omega)))<|hk0) v0 c0 ?_
      refine Aa [] [0,3,7,56,57,58,65] ?_
      refine Dh (p:=(Cm (nth r.pkgs i))=0) (by kernel_rfl) (fun c5=>?_) (fun c5=>?_)
      ·refine Aa [] [4] ?_
       refine Ac ?_
       refine D0 (.inl rfl) (al:=[(.int .i64 (Cm (nth r.pkgs i)))]) (by kernel_rfl) ?_ ((by kernel_rfl:Cj 4 _=some [(0,(.row [(.int .i64 st.kind),(.own 1),(.own 2),(.map 3)] 75)),(1,(.grow (st.repos.map A4) 59 4)),(2,(.grow (st.all.map A7) 78 13)),(3,(.mm (A3 st.all) none 3 1))]).trans ?_)
       all_goals have hE:B9 st r=Cm (nth r.pkgs i):=by unfold B9;rw[if_neg (by simp only[not_or];simp_all),if_neg (by rintro⟨h1,h2⟩;rw[h1,h2] at c2;simp at c2),if_neg (by omega)];exact Tc (by omega) f1_2 (by assumption)
       ·rw[hE];rfl
       ·rw[Iv hE (by assumption)]
      ·refine Ah ?_
       refine Ar ?_
       refine Aw 0 [] [0,3,56,57,58] [] hk0 v0 (cc 0 (p:=(-9223372036854775808≤(i:Int)+1∧(i:Int)+1≤9223372036854775807)) (by omega)<|c0) ?_
       refine⟨by kernel_rfl,_,?_,i+1,?_,?_,(by kernel_rfl),rfl⟩
       ·omega
       ·omega
       ·intro j hj
        by_cases h:j=i
        ·subst h;simp_all
        ·exact f1_2 j (by omega)
     ·refine Bq ?_
      refine Ab ?_
      refine Aa [] [0,3,69,70,71] ?_
      refine Ax ?_
      refine B4 (fun g y=>∃(i:Nat),i≤r.pkgs.length∧y=⟨[(0,(.ptr 0 0)),(3,(.ptr 4 0)),(69,(Af 12 An r.pkgs)),(70,(.int .i64 ((r.pkgs.length:Int)))),(71,(.int .i64 ((i:Int))))],[(0,(.row [(.int .i64 st.kind),(.own 1),(.own 2),(.map 3)] 75)),(1,(.grow (st.repos.map A4) 59 4)),(2,(.grow ((Aq st r i).map A7) 78 13)),(3,(.mm (A3 (Aq st r i)) none 3 1)),(4,(.row [(.str r.name),(.int .i64 r.prio),(.bool r.inst),(Af 12 An r.pkgs)] 59))],5⟩∧g=r.pkgs.length-i) [0,3,69,70,71] 5 _ (by omega) ⟨0,(by omega),(Eq.trans (b:=(⟨[(0,(.ptr 0 0)),(3,(.ptr 4 0)),(69,(Af 12 An r.pkgs)),(70,(.int .i64 ((r.pkgs.length:Int)))),(71,(.int .i64 0))],[(0,(.row [(.int .i64 st.kind),(.own 1),(.own 2),(.map 3)] 75)),(1,(.grow (st.repos.map A4) 59 4)),(2,(.grow (st.all.map A7) 78 13)),(3,(.mm (A3 st.all) none 3 1)),(4,(.row [(.str r.name),(.int .i64 r.prio),(.bool r.inst),(Af 12 An r.pkgs)] 59))],5⟩:St)) (by kernel_rfl) (by rw[show Aq st r 0=st.all from by simp[Aq]]<;>rfl)),rfl⟩ ?_
      rintro g2 y2 ⟨i,f2_1,rfl,rfl⟩
      have hkl:((Aq st r i).map A7).length≤200:=by have:=Q84 (st:=st) (r:=r) (i:=i);rw[List.length_map];omega
      have hgl:(A3 (Aq st r i) (nth r.pkgs i).name).length≤200:=Nat.le_trans (Q74 _ _) (by rwa [List.length_map] at hkl)
      refine Aa [] [0,3,69,70,71,72] ?_
      refine Ab ?_
      refine Ba (p:=(i:Int) < (r.pkgs.length:Int)) (by kernel_rfl) (fun c6=>?_) (fun c6=>?_)
      ·refine Ah ?_
       refine Db (fun y=>y=⟨[(0,(.ptr 0 0)),(3,(.ptr 4 0)),(69,(Af 12 An r.pkgs)),(70,(.int .i64 ((r.pkgs.length:Int)))),(71,(.int .i64 ((i:Int))))],[(0,(.row [(.int .i64 st.kind),(.own 1),(.own 2),(.map 3)] 75)),(1,(.grow (st.repos.map A4) 59 4)),(2,(.grow ((Aq st r i++[(nth r.pkgs i,(st.repos.length:Int))]).map A7) 78 13)),(3,(.mm (A3 (Aq st r i++[(nth r.pkgs i,(st.repos.length:Int))])) none 3 1)),(4,(.row [(.str r.name),(.int .i64 r.prio),(.bool r.inst),(Af 12 An r.pkgs)] 59))],5⟩) [0,3,69,70,71] 5 (by omega) ?_ ?_
       ·refine Ax ?_
        refine Ae [] [0,3,9,69,70,71] [] hk0 v0 (cc 0 (p:=(0≤(i:Int)∧i < r.pkgs.length)) (by omega)<|c0) ?_
        refine Qx 9 (y:=⟨[(0,(.ptr 0 0)),(3,(.ptr 4 0)),(9,(.fp (An (nth r.pkgs i)))),(69,(Af 12 An r.pkgs)),(70,(.int .i64 ((r.pkgs.length:Int)))),(71,(.int .i64 ((i:Int))))],[(0,(.row [(.int .i64 st.kind),(.own 1),(.own 2),(.map 3)] 75)),(1,(.grow (st.repos.map A4) 59 4)),(2,(.grow ((Aq st r i).map A7) 78 13)),(3,(.mm (A3 (Aq st r i)) none 3 1)),(4,(.row [(.str r.name),(.int .i64 r.prio),(.bool r.inst),(Af 12 An r.pkgs)] 59))],6⟩) (by kernel_rfl) ?_
        refine Db (fun y=>y=⟨[(0,(.ptr 0 0)),(3,(.ptr 4 0)),(9,(.fp (An (nth r.pkgs i)))),(69,(Af 12 An r.pkgs)),(70,(.int .i64 ((r.pkgs.length:Int)))),(71,(.int .i64 ((i:Int))))],[(0,(.row [(.int .i64 st.kind),(.own 1),(.own 2),(.map 3)] 75)),(1,(.grow (st.repos.map A4) 59 4)),(2,(.grow ((Aq st r i).map A7) 78 13)),(3,(.mm (A3 (Aq st r i++[(nth r.pkgs i,(st.repos.length:Int))])) none 3 1)),(4,(.row [(.str r.name),(.int .i64 r.prio),(.bool r.inst),(Af 12 An r.pkgs)] 59))],6⟩) [0,3,9,69,70,71] 6 (by omega) ?_ ?_
        ·refine Iz (by kernel_rfl) (fun F1 hF1=>?_)
         refine B5 false 1 (lsD 21 [0,1,2,3,4,5,6,7,8,9,10,11,12,13,14,15,16,17,18,19]) ⟨[(0,(.ptr 0 0)),(3,(.ptr 4 0)),(9,(.fp (An (nth r.pkgs i)))),(69,(Af 12 An r.pkgs)),(70,(.int .i64 ((r.pkgs.length:Int)))),(71,(.int .i64 ((i:Int)))),(78,(.map 3)),(80,(.str ((nth r.pkgs i).name))),(94,(.own 6))],[(0,(.row [(.int .i64 st.kind),(.own 1),(.own 2),(.map 3)] 75)),(1,(.grow (st.repos.map A4) 59 4)),(2,(.grow ((Aq st r i).map A7) 78 13)),(3,(.mm (A3 (Aq st r i)) (some ((nth r.pkgs i).name)) 3 1)),(4,(.row [(.str r.name),(.int .i64 r.prio),(.bool r.inst),(Af 12 An r.pkgs)] 59)),(6,(.grow (((A3 (Aq st r i)) ((nth r.pkgs i).name))++([(.int .i64 ((((Aq st r i).map A7).length:Int)))]:List AV)) 3 1)),(7,(.row [(.int .i64 ((((Aq st r i).map A7).length:Int)))] 3))],8⟩ ?_ (fun m1_1=>?_)
         ·refine Ep (fuel:=0) 20 (by kernel_rfl) ?_
          refine Cf (fuel:=0) 20 rfl ?_
          refine Q1 (b:=3) (c:=6) (s:=(nth r.pkgs i).name) (s1:=(nth r.pkgs i).name) (y:=⟨[(0,(.ptr 0 0)),(3,(.ptr 4 0)),(9,(.fp (An (nth r.pkgs i)))),(69,(Af 12 An r.pkgs)),(70,(.int .i64 ((r.pkgs.length:Int)))),(71,(.int .i64 ((i:Int)))),(78,(.map 3)),(80,(.str ((nth r.pkgs i).name))),(94,(.own 6))],[(0,(.row [(.int .i64 st.kind),(.own 1),(.own 2),(.map 3)] 75)),(1,(.grow (st.repos.map A4) 59 4)),(2,(.grow ((Aq st r i).map A7) 78 13)),(3,(.mm (Di (A3 (Aq st r i)) ((nth r.pkgs i).name) (((A3 (Aq st r i)) ((nth r.pkgs i).name))++([(.int .i64 ((((Aq st r i).map A7).length:Int)))]:List AV))) none 3 1)),(4,(.row [(.str r.name),(.int .i64 r.prio),(.bool r.inst),(Af 12 An r.pkgs)] 59)),(7,(.row [(.int .i64 ((((Aq st r i).map A7).length:Int)))] 3))],8⟩) (by kernel_rfl) (by kernel_rfl) (by kernel_rfl) (by kernel_rfl) (by kernel_rfl) rfl Tryz.underlying73 Tryz.underlying9 (by kernel_rfl) rfl ?_
          refine Bo ⟨rfl,?_⟩
          refine As [0,3,9,69,70,71] ?_
          refine Hd (by kernel_rfl) ?_
          refine⟨by kernel_rfl,(Eq.trans (b:=(⟨[(0,(.ptr 0 0)),(3,(.ptr 4 0)),(9,(.fp (An (nth r.pkgs i)))),(69,(Af 12 An r.pkgs)),(70,(.int .i64 ((r.pkgs.length:Int)))),(71,(.int .i64 ((i:Int))))],[(0,(.row [(.int .i64 st.kind),(.own 1),(.own 2),(.map 3)] 75)),(1,(.grow (st.repos.map A4) 59 4)),(2,(.grow ((Aq st r i).map A7) 78 13)),(3,(.mm (Di (A3 (Aq st r i)) ((nth r.pkgs i).name) (((A3 (Aq st r i)) ((nth r.pkgs i).name))++([(.int .i64 ((((Aq st r i).map A7).length:Int)))]:List AV))) none 3 1)),(4,(.row [(.str r.name),(.int .i64 r.prio),(.bool r.inst),(Af 12 An r.pkgs)] 59))],6⟩:St)) (by kernel_rfl) (by rw[show(Di (A3 (Aq st r i)) ((nth r.pkgs i).name) (((A3 (Aq st r i)) ((nth r.pkgs i).name))++([(.int .i64 ((((Aq st r i).map A7).length:Int)))]:List AV)))=A3 (Aq st r i++[(nth r.pkgs i,(st.repos.length:Int))]) from by(try rw[List.length_map]);exact Ya (Aq st r i) (nth r.pkgs i,(st.repos.length:Int))]<;>kernel_rfl))⟩
         refine B5 false 1 (lsD 21 [0,1,2,3,4,5,6,7,8,9,10,11,12,13,14,15,16,17,18,19]) ⟨[(0,(.ptr 0 0)),(3,(.ptr 4 0)),(9,(.fp (An (nth r.pkgs i)))),(69,(Af 12 An r.pkgs)),(70,(.int .i64 ((r.pkgs.length:Int)))),(71,(.int .i64 ((i:Int)))),(78,(.map 3)),(80,(.str ((nth r.pkgs i).name))),(94,(.own 7))],[(0,(.row [(.int .i64 st.kind),(.own 1),(.own 2),(.map 3)] 75)),(1,(.grow (st.repos.map A4) 59 4)),(2,(.grow ((Aq st r i).map A7) 78 13)),(3,(.mm (A3 (Aq st r i)) (some ((nth r.pkgs i).name)) 3 1)),(4,(.row [(.str r.name),(.int .i64 r.prio),(.bool r.inst),(Af 12 An r.pkgs)] 59)),(6,(.row [(.int .i64 ((((Aq st r i).map A7).length:Int)))] 3)),(7,(.grow (((A3 (Aq st r i)) ((nth r.pkgs i).name))++([(.int .i64 ((((Aq st r i).map A7).length:Int)))]:List AV)) 3 1))],8⟩ ?_ (fun m1_2=>?_)
         ·refine Ep (fuel:=0) 20 (by kernel_rfl) ?_
          refine Cf (fuel:=0) 20 rfl ?_
          refine Q1 (b:=3) (c:=7) (s:=(nth r.pkgs i).name) (s1:=(nth r.pkgs i).name) (y:=⟨[(0,(.ptr 0 0)),(3,(.ptr 4 0)),(9,(.fp (An (nth r.pkgs i)))),(69,(Af 12 An r.pkgs)),(70,(.int .i64 ((r.pkgs.length:Int)))),(71,(.int .i64 ((i:Int)))),(78,(.map 3)),(80,(.str ((nth r.pkgs i).name))),(94,(.own 7))],[(0,(.row [(.int .i64 st.kind),(.own 1),(.own 2),(.map 3)] 75)),(1,(.grow (st.repos.map A4) 59 4)),(2,(.grow ((Aq st r i).map A7) 78 13)),(3,(.mm (Di (A3 (Aq st r i)) ((nth r.pkgs i).name) (((A3 (Aq st r i)) ((nth r.pkgs i).name))++([(.int .i64 ((((Aq st r i).map A7).length:Int)))]:List AV))) none 3 1)),(4,(.row [(.str r.name),(.int .i64 r.prio),(.bool r.inst),(Af 12 An r.pkgs)] 59)),(6,(.row [(.int .i64 ((((Aq st r i).map A7).length:Int)))] 3))],8⟩) (by kernel_rfl) (by kernel_rfl) (by kernel_rfl) (by kernel_rfl) (by kernel_rfl) rfl Tryz.underlying73 Tryz.underlying9 (by kernel_rfl) rfl ?_
          refine Bo ⟨rfl,?_⟩
          refine As [0,3,9,69,70,71] ?_
          refine Hd (by kernel_rfl) ?_
          refine⟨by kernel_rfl,(Eq.trans (b:=(⟨[(0,(.ptr 0 0)),(3,(.ptr 4 0)),(9,(.fp (An (nth r.pkgs i)))),(69,(Af 12 An r.pkgs)),(70,(.int .i64 ((r.pkgs.length:Int)))),(71,(.int .i64 ((i:Int))))],[(0,(.row [(.int .i64 st.kind),(.own 1),(.own 2),(.map 3)] 75)),(1,(.grow (st.repos.map A4) 59 4)),(2,(.grow ((Aq st r i).map A7) 78 13)),(3,(.mm (Di (A3 (Aq st r i)) ((nth r.pkgs i).name) (((A3 (Aq st r i)) ((nth r.pkgs i).name))++([(.int .i64 ((((Aq st r i).map A7).length:Int)))]:List AV))) none 3 1)),(4,(.row [(.str r.name),(.int .i64 r.prio),(.bool r.inst),(Af 12 An r.pkgs)] 59))],6⟩:St)) (by kernel_rfl) (by rw[show(Di (A3 (Aq st r i)) ((nth r.pkgs i).name) (((A3 (Aq st r i)) ((nth r.pkgs i).name))++([(.int .i64 ((((Aq st r i).map A7).length:Int)))]:List AV)))=A3 (Aq st r i++[(nth r.pkgs i,(st.repos.length:Int))]) from by(try rw[List.length_map]);exact Ya (Aq st r i) (nth r.pkgs i,(st.repos.length:Int))]<;>kernel_rfl))⟩
         refine B5 false 2 (lsD 21 [0,1,2,3,4,5,6,7,8,9,10,11,12,13,14,15,16,17,18]) ⟨[(0,(.ptr 0 0)),(3,(.ptr 4 0)),(9,(.fp (An (nth r.pkgs i)))),(69,(Af 12 An r.pkgs)),(70,(.int .i64 ((r.pkgs.length:Int)))),(71,(.int .i64 ((i:Int)))),(78,(.map 3)),(80,(.str ((nth r.pkgs i).name))),(87,(.own 6)),(93,(.sl 7 0 1 1 false))],[(0,(.row [(.int .i64 st.kind),(.own 1),(.own 2),(.map 3)] 75)),(1,(.grow (st.repos.map A4) 59 4)),(2,(.grow ((Aq st r i).map A7) 78 13)),(3,(.mm (A3 (Aq st r i)) (some ((nth r.pkgs i).name)) 3 1)),(4,(.row [(.str r.name),(.int .i64 r.prio),(.bool r.inst),(Af 12 An r.pkgs)] 59)),(6,(.grow ((A3 (Aq st r i)) ((nth r.pkgs i).name)) 3 1)),(7,(.row [(.int .i64 ((((Aq st r i).map A7).length:Int)))] 3))],8⟩ ?_ (fun m1_3=>?_)
         ·refine Cq (fuel:=1) 19 [] (hold (p:=((((A3 (Aq st r i)) ((nth r.pkgs i).name)).length+1)*8≤140737488355328)) (by omega)) ?_
          refine As [0,3,9,69,70,71,78,80,94] ?_
          exact A0 m1_1
         refine B5 false 2 (lsD 21 [0,1,2,3,4,5,6,7,8,9,10,11,12,13,14,15,16,17,18]) ⟨[(0,(.ptr 0 0)),(3,(.ptr 4 0)),(9,(.fp (An (nth r.pkgs i)))),(69,(Af 12 An r.pkgs)),(70,(.int .i64 ((r.pkgs.length:Int)))),(71,(.int .i64 ((i:Int)))),(78,(.map 3)),(80,(.str ((nth r.pkgs i).name))),(87,(.own 7)),(93,(.sl 6 0 1 1 false))],[(0,(.row [(.int .i64 st.kind),(.own 1),(.own 2),(.map 3)] 75)),(1,(.grow (st.repos.map A4) 59 4)),(2,(.grow ((Aq st r i).map A7) 78 13)),(3,(.mm (A3 (Aq st r i)) (some ((nth r.pkgs i).name)) 3 1)),(4,(.row [(.str r.name),(.int .i64 r.prio),(.bool r.inst),(Af 12 An r.pkgs)] 59)),(6,(.row [(.int .i64 ((((Aq st r i).map A7).length:Int)))] 3)),(7,(.grow ((A3 (Aq st r i)) ((nth r.pkgs i).name)) 3 1))],8⟩ ?_ (fun m1_4=>?_)
         ·refine Cq (fuel:=1) 19 [] (hold (p:=((((A3 (Aq st r i)) ((nth r.pkgs i).name)).length+1)*8≤140737488355328)) (by omega)) ?_
          refine As [0,3,9,69,70,71,78,80,94] ?_
          exact A0 m1_2
         refine B5 false 3 (lsD 21 [0,1,2,3,4,5,6,7,8,9,10,11,12,13,14,15,16,17]) ⟨[(0,(.ptr 0 0)),(3,(.ptr 4 0)),(9,(.fp (An (nth r.pkgs i)))),(69,(Af 12 An r.pkgs)),(70,(.int .i64 ((r.pkgs.length:Int)))),(71,(.int .i64 ((i:Int)))),(78,(.map 3)),(80,(.str ((nth r.pkgs i).name))),(87,(.own 6)),(92,(.int .i64 ((((Aq st r i).map A7).length:Int))))],[(0,(.row [(.int .i64 st.kind),(.own 1),(.own 2),(.map 3)] 75)),(1,(.grow (st.repos.map A4) 59 4)),(2,(.grow ((Aq st r i).map A7) 78 13)),(3,(.mm (A3 (Aq st r i)) (some ((nth r.pkgs i).name)) 3 1)),(4,(.row [(.str r.name),(.int .i64 r.prio),(.bool r.inst),(Af 12 An r.pkgs)] 59)),(6,(.grow ((A3 (Aq st r i)) ((nth r.pkgs i).name)) 3 1))],7⟩ ?_ (fun m1_5=>?_)
         ·refine Cq (fuel:=2) 18 [] Av ?_
          refine As [0,3,9,69,70,71,78,80,87,93] ?_
          exact A0 m1_3
         refine B5 true 3 (lsD 21 [0,1,2,3,4,5,6,7,8,9,10,11,13,14,15,16,17,18]) ⟨[(0,(.ptr 0 0)),(3,(.ptr 4 0)),(9,(.fp (An (nth r.pkgs i)))),(69,(Af 12 An r.pkgs)),(70,(.int .i64 ((r.pkgs.length:Int)))),(71,(.int .i64 ((i:Int)))),(78,(.map 3)),(80,(.str ((nth r.pkgs i).name))),(84,(.map 3)),(86,(.str ((nth r.pkgs i).name))),(93,(.sl 6 0 1 1 false))],[(0,(.row [(.int .i64 st.kind),(.own 1),(.own 2),(.map 3)] 75)),(1,(.grow (st.repos.map A4) 59 4)),(2,(.grow ((Aq st r i).map A7) 78 13)),(3,(.mm (A3 (Aq st r i)) none 3 1)),(4,(.row [(.str r.name),(.int .i64 r.prio),(.bool r.inst),(Af 12 An r.pkgs)] 59)),(6,(.row [(.int .i64 ((((Aq st r i).map A7).length:Int)))] 3))],7⟩ ?_ (fun m1_6=>?_)
         ·refine Ep (fuel:=2) 12 (by kernel_rfl) ?_
          refine Cf (fuel:=2) 12 rfl ?_
          refine Ey (b:=3) (s:=(nth r.pkgs i).name) (y:=⟨[(0,(.ptr 0 0)),(3,(.ptr 4 0)),(9,(.fp (An (nth r.pkgs i)))),(69,(Af 12 An r.pkgs)),(70,(.int .i64 ((r.pkgs.length:Int)))),(71,(.int .i64 ((i:Int)))),(78,(.map 3)),(80,(.str ((nth r.pkgs i).name))),(84,(.map 3)),(86,(.str ((nth r.pkgs i).name))),(93,(.sl 6 0 1 1 false)),(87,(.own 7))],[(0,(.row [(.int .i64 st.kind),(.own 1),(.own 2),(.map 3)] 75)),(1,(.grow (st.repos.map A4) 59 4)),(2,(.grow ((Aq st r i).map A7) 78 13)),(3,(.mm (A3 (Aq st r i)) (some ((nth r.pkgs i).name)) 3 1)),(4,(.row [(.str r.name),(.int .i64 r.prio),(.bool r.inst),(Af 12 An r.pkgs)] 59)),(6,(.row [(.int .i64 ((((Aq st r i).map A7).length:Int)))] 3)),(7,(.grow ((A3 (Aq st r i)) ((nth r.pkgs i).name)) 3 1))],8⟩) (by kernel_rfl) (by kernel_rfl) (by kernel_rfl) Tryz.underlying73 Tryz.underlying9 (fun _=>by kernel_rfl) (by kernel_rfl) ?_
          refine Bo ⟨rfl,?_⟩
          refine As [0,3,9,69,70,71,78,80,87,93] ?_
          exact A0 m1_4
         refine B5 false 4 (lsD 21 [0,1,2,3,4,5,6,7,8,9,10,11,12,13,14,15,16]) ⟨[(0,(.ptr 0 0)),(3,(.ptr 4 0)),(9,(.fp (An (nth r.pkgs i)))),(69,(Af 12 An r.pkgs)),(70,(.int .i64 ((r.pkgs.length:Int)))),(71,(.int .i64 ((i:Int)))),(78,(.map 3)),(80,(.str ((nth r.pkgs i).name))),(87,(.own 6)),(91,(.own 2))],[(0,(.row [(.int .i64 st.kind),(.own 1),(.own 2),(.map 3)] 75)),(1,(.grow (st.repos.map A4) 59 4)),(2,(.grow ((Aq st r i).map A7) 78 13)),(3,(.mm (A3 (Aq st r i)) (some ((nth r.pkgs i).name)) 3 1)),(4,(.row [(.str r.name),(.int .i64 r.prio),(.bool r.inst),(Af 12 An r.pkgs)] 59)),(6,(.grow ((A3 (Aq st r i)) ((nth r.pkgs i).name)) 3 1))],7⟩ ?_ (fun m1_7=>?_)
         ·refine Cq (fuel:=3) 17 [] Av ?_
          refine As [0,3,9,69,70,71,78,80,87,92] ?_
          exact A0 m1_5
         refine B5 true 4 (lsD 21 [0,1,2,3,4,5,6,7,8,9,10,11,13,14,15,16,17]) ⟨[(0,(.ptr 0 0)),(3,(.ptr 4 0)),(9,(.fp (An (nth r.pkgs i)))),(69,(Af 12 An r.pkgs)),(70,(.int .i64 ((r.pkgs.length:Int)))),(71,(.int .i64 ((i:Int)))),(78,(.map 3)),(80,(.str ((nth r.pkgs i).name))),(84,(.map 3)),(86,(.str ((nth r.pkgs i).name))),(92,(.int .i64 ((((Aq st r i).map A7).length:Int))))],[(0,(.row [(.int .i64 st.kind),(.own 1),(.own 2),(.map 3)] 75)),(1,(.grow (st.repos.map A4) 59 4)),(2,(.grow ((Aq st r i).map A7) 78 13)),(3,(.mm (A3 (Aq st r i)) none 3 1)),(4,(.row [(.str r.name),(.int .i64 r.prio),(.bool r.inst),(Af 12 An r.pkgs)] 59))],6⟩ ?_ (fun m1_8=>?_)
         ·refine Ca 12 18 (by kernel_rfl) ?_ ?_
          ·refine Cf (fuel:=3) 12 rfl ?_
           refine Ey (b:=3) (s:=(nth r.pkgs i).name) (y:=⟨[(0,(.ptr 0 0)),(3,(.ptr 4 0)),(9,(.fp (An (nth r.pkgs i)))),(69,(Af 12 An r.pkgs)),(70,(.int .i64 ((r.pkgs.length:Int)))),(71,(.int .i64 ((i:Int)))),(78,(.map 3)),(80,(.str ((nth r.pkgs i).name))),(84,(.map 3)),(86,(.str ((nth r.pkgs i).name))),(92,(.int .i64 ((((Aq st r i).map A7).length:Int)))),(87,(.own 6))],[(0,(.row [(.int .i64 st.kind),(.own 1),(.own 2),(.map 3)] 75)),(1,(.grow (st.repos.map A4) 59 4)),(2,(.grow ((Aq st r i).map A7) 78 13)),(3,(.mm (A3 (Aq st r i)) (some ((nth r.pkgs i).name)) 3 1)),(4,(.row [(.str r.name),(.int .i64 r.prio),(.bool r.inst),(Af 12 An r.pkgs)] 59)),(6,(.grow ((A3 (Aq st r i)) ((nth r.pkgs i).name)) 3 1))],7⟩) (by kernel_rfl) (by kernel_rfl) (by kernel_rfl) Tryz.underlying73 Tryz.underlying9 (fun _=>by kernel_rfl) (by kernel_rfl) ?_
           refine Bo ⟨rfl,?_⟩
           refine As [0,3,9,69,70,71,78,80,87,92] ?_
           exact A0 m1_5
          ·refine A2 (fuel:=3) 18 [] Av ?_
           refine As [0,3,9,69,70,71,78,80,84,86,93] ?_
           exact A0 m1_6
         refine B5 true 4 (lsD 21 [0,1,2,3,4,5,6,7,8,10,11,13,14,15,16,17,18]) ⟨[(0,(.ptr 0 0)),(3,(.ptr 4 0)),(9,(.fp (An (nth r.pkgs i)))),(69,(Af 12 An r.pkgs)),(70,(.int .i64 ((r.pkgs.length:Int)))),(71,(.int .i64 ((i:Int)))),(78,(.map 3)),(80,(.str ((nth r.pkgs i).name))),(83,(.ptr 0 3)),(86,(.str ((nth r.pkgs i).name))),(93,(.sl 6 0 1 1 false))],[(0,(.row [(.int .i64 st.kind),(.own 1),(.own 2),(.map 3)] 75)),(1,(.grow (st.repos.map A4) 59 4)),(2,(.grow ((Aq st r i).map A7) 78 13)),(3,(.mm (A3 (Aq st r i)) none 3 1)),(4,(.row [(.str r.name),(.int .i64 r.prio),(.bool r.inst),(Af 12 An r.pkgs)] 59)),(6,(.row [(.int .i64 ((((Aq st r i).map A7).length:Int)))] 3))],7⟩ ?_ (fun m1_9=>?_)
         ·refine Cq (fuel:=3) 9 [] Av ?_
          refine As [0,3,9,69,70,71,78,80,84,86,93] ?_
          exact A0 m1_6
         refine B5 false 4 (lsD 21 [0,1,2,4,5,6,7,8,9,10,11,12,13,14,15,16,17]) ⟨[(0,(.ptr 0 0)),(3,(.ptr 4 0)),(9,(.fp (An (nth r.pkgs i)))),(69,(Af 12 An r.pkgs)),(70,(.int .i64 ((r.pkgs.length:Int)))),(71,(.int .i64 ((i:Int)))),(77,(.ptr 0 3)),(80,(.str ((nth r.pkgs i).name))),(87,(.own 6)),(92,(.int .i64 ((((Aq st r i).map A7).length:Int))))],[(0,(.row [(.int .i64 st.kind),(.own 1),(.own 2),(.map 3)] 75)),(1,(.grow (st.repos.map A4) 59 4)),(2,(.grow ((Aq st r i).map A7) 78 13)),(3,(.mm (A3 (Aq st r i)) (some ((nth r.pkgs i).name)) 3 1)),(4,(.row [(.str r.name),(.int .i64 r.prio),(.bool r.inst),(Af 12 An r.pkgs)] 59)),(6,(.grow ((A3 (Aq st r i)) ((nth r.pkgs i).name)) 3 1))],7⟩ ?_ (fun m1_10=>?_)
         ·refine Ca 3 18 (by kernel_rfl) ?_ ?_
          ·refine A2 (fuel:=3) 3 [] Av ?_
           refine As [0,3,9,69,70,71,78,80,87,92] ?_
           exact A0 m1_5
          ·refine A2 (fuel:=3) 18 [] Av ?_
           refine As [0,3,9,69,70,71,77,80,87,93] ?_
           refine Ca 3 19 (by kernel_rfl) ?_ ?_
           ·refine A2 (fuel:=2) 3 [] Av ?_
            refine As [0,3,9,69,70,71,78,80,87,93] ?_
            exact A0 m1_3
           ·refine A2 (fuel:=2) 19 [] (hold (p:=((((A3 (Aq st r i)) ((nth r.pkgs i).name)).length+1)*8≤140737488355328)) (by omega)) ?_
            refine As [0,3,9,69,70,71,77,80,94] ?_
            refine Cq (fuel:=1) 3 [] Av ?_
            refine As [0,3,9,69,70,71,78,80,94] ?_
            exact A0 m1_1
         refine B5 true 4 (lsD 21 [0,1,2,4,5,6,7,8,9,10,11,13,14,15,16,17,18]) ⟨[(0,(.ptr 0 0)),(3,(.ptr 4 0)),(9,(.fp (An (nth r.pkgs i)))),(69,(Af 12 An r.pkgs)),(70,(.int .i64 ((r.pkgs.length:Int)))),(71,(.int .i64 ((i:Int)))),(77,(.ptr 0 3)),(80,(.str ((nth r.pkgs i).name))),(84,(.map 3)),(86,(.str ((nth r.pkgs i).name))),(93,(.sl 6 0 1 1 false))],[(0,(.row [(.int .i64 st.kind),(.own 1),(.own 2),(.map 3)] 75)),(1,(.grow (st.repos.map A4) 59 4)),(2,(.grow ((Aq st r i).map A7) 78 13)),(3,(.mm (A3 (Aq st r i)) none 3 1)),(4,(.row [(.str r.name),(.int .i64 r.prio),(.bool r.inst),(Af 12 An r.pkgs)] 59)),(6,(.row [(.int .i64 ((((Aq st r i).map A7).length:Int)))] 3))],7⟩ ?_ (fun m1_11=>?_)
         ·refine Ca 3 12 (by kernel_rfl) ?_ ?_
          ·refine A2 (fuel:=3) 3 [] Av ?_
           refine As [0,3,9,69,70,71,78,80,84,86,93] ?_
           exact A0 m1_6
          ·refine Cf (fuel:=3) 12 rfl ?_
           refine Ey (b:=3) (s:=(nth r.pkgs i).name) (y:=⟨[(0,(.ptr 0 0)),(3,(.ptr 4 0)),(9,(.fp (An (nth r.pkgs i)))),(69,(Af 12 An r.pkgs)),(70,(.int .i64 ((r.pkgs.length:Int)))),(71,(.int .i64 ((i:Int)))),(77,(.ptr 0 3)),(80,(.str ((nth r.pkgs i).name))),(84,(.map 3)),(86,(.str ((nth r.pkgs i).name))),(93,(.sl 6 0 1 1 false)),(87,(.own 7))],[(0,(.row [(.int .i64 st.kind),(.own 1),(.own 2),(.map 3)] 75)),(1,(.grow (st.repos.map A4) 59 4)),(2,(.grow ((Aq st r i).map A7) 78 13)),(3,(.mm (A3 (Aq st r i)) (some ((nth r.pkgs i).name)) 3 1)),(4,(.row [(.str r.name),(.int .i64 r.prio),(.bool r.inst),(Af 12 An r.pkgs)] 59)),(6,(.row [(.int .i64 ((((Aq st r i).map A7).length:Int)))] 3)),(7,(.grow ((A3 (Aq st r i)) ((nth r.pkgs i).name)) 3 1))],8⟩) (by kernel_rfl) (by kernel_rfl) (by kernel_rfl) Tryz.underlying73 Tryz.underlying9 (fun _=>by kernel_rfl) (by kernel_rfl) ?_
           refine Bo ⟨rfl,?_⟩
           refine As [0,3,9,69,70,71,77,80,87,93] ?_
           refine Ca 3 19 (by kernel_rfl) ?_ ?_
           ·refine A2 (fuel:=2) 3 [] Av ?_
            refine As [0,3,9,69,70,71,78,80,87,93] ?_
            exact A0 m1_4
           ·refine A2 (fuel:=2) 19 [] (hold (p:=((((A3 (Aq st r i)) ((nth r.pkgs i).name)).length+1)*8≤140737488355328)) (by omega)) ?_
            refine As [0,3,9,69,70,71,77,80,94] ?_
            refine Cq (fuel:=1) 3 [] Av ?_
            refine As [0,3,9,69,70,71,78,80,94] ?_
            exact A0 m1_2
         refine B5 false 5 (lsD 21 [0,1,2,3,4,5,6,7,8,9,10,11,12,13,14,15]) ⟨[(0,(.ptr 0 0)),(3,(.ptr 4 0)),(9,(.fp (An (nth r.pkgs i)))),(69,(Af 12 An r.pkgs)),(70,(.int .i64 ((r.pkgs.length:Int)))),(71,(.int .i64 ((i:Int)))),(78,(.map 3)),(80,(.str ((nth r.pkgs i).name))),(87,(.own 6)),(90,(.ptr 0 2))],[(0,(.row [(.int .i64 st.kind),(.own 1),(.own 2),(.map 3)] 75)),(1,(.grow (st.repos.map A4) 59 4)),(2,(.grow ((Aq st r i).map A7) 78 13)),(3,(.mm (A3 (Aq st r i)) (some ((nth r.pkgs i).name)) 3 1)),(4,(.row [(.str r.name),(.int .i64 r.prio),(.bool r.inst),(Af 12 An r.pkgs)] 59)),(6,(.grow ((A3 (Aq st r i)) ((nth r.pkgs i).name)) 3 1))],7⟩ ?_ (fun m1_12=>?_)
         ·refine Cq (fuel:=4) 16 [] Av ?_
          refine As [0,3,9,69,70,71,78,80,87,91] ?_
          exact A0 m1_7
         refine B5 true 5 (lsD 21 [0,1,2,3,4,5,6,7,8,9,10,11,13,14,15,16]) ⟨[(0,(.ptr 0 0)),(3,(.ptr 4 0)),(9,(.fp (An (nth r.pkgs i)))),(69,(Af 12 An r.pkgs)),(70,(.int .i64 ((r.pkgs.length:Int)))),(71,(.int .i64 ((i:Int)))),(78,(.map 3)),(80,(.str ((nth r.pkgs i).name))),(84,(.map 3)),(86,(.str ((nth r.pkgs i).name))),(91,(.own 2))],[(0,(.row [(.int .i64 st.kind),(.own 1),(.own 2),(.map 3)] 75)),(1,(.grow (st.repos.map A4) 59 4)),(2,(.grow ((Aq st r i).map A7) 78 13)),(3,(.mm (A3 (Aq st r i)) none 3 1)),(4,(.row [(.str r.name),(.int .i64 r.prio),(.bool r.inst),(Af 12 An r.pkgs)] 59))],6⟩ ?_ (fun m1_13=>?_)
         ·refine Ca 12 17 (by kernel_rfl) ?_ ?_
          ·refine Cf (fuel:=4) 12 rfl ?_
           refine Ey (b:=3) (s:=(nth r.pkgs i).name) (y:=⟨[(0,(.ptr 0 0)),(3,(.ptr 4 0)),(9,(.fp (An (nth r.pkgs i)))),(69,(Af 12 An r.pkgs)),(70,(.int .i64 ((r.pkgs.length:Int)))),(71,(.int .i64 ((i:Int)))),(78,(.map 3)),(80,(.str ((nth r.pkgs i).name))),(84,(.map 3)),(86,(.str ((nth r.pkgs i).name))),(91,(.own 2)),(87,(.own 6))],[(0,(.row [(.int .i64 st.kind),(.own 1),(.own 2),(.map 3)] 75)),(1,(.grow (st.repos.map A4) 59 4)),(2,(.grow ((Aq st r i).map A7) 78 13)),(3,(.mm (A3 (Aq st r i)) (some ((nth r.pkgs i).name)) 3 1)),(4,(.row [(.str r.name),(.int .i64 r.prio),(.bool r.inst),(Af 12 An r.pkgs)] 59)),(6,(.grow ((A3 (Aq st r i)) ((nth r.pkgs i).name)) 3 1))],7⟩) (by kernel_rfl) (by kernel_rfl) (by kernel_rfl) Tryz.underlying73 Tryz.underlying9 (fun _=>by kernel_rfl) (by kernel_rfl) ?_
           refine Bo ⟨rfl,?_⟩
           refine As [0,3,9,69,70,71,78,80,87,91] ?_
           exact A0 m1_7
          ·refine A2 (fuel:=4) 17 [] Av ?_
           refine As [0,3,9,69,70,71,78,80,84,86,92] ?_
           exact A0 m1_8
         refine B5 true 5 (lsD 21 [0,1,2,3,4,5,6,7,8,10,11,13,14,15,16,17]) ⟨[(0,(.ptr 0 0)),(3,(.ptr 4 0)),(9,(.fp (An (nth r.pkgs i)))),(69,(Af 12 An r.pkgs)),(70,(.int .i64 ((r.pkgs.length:Int)))),(71,(.int .i64 ((i:Int)))),(78,(.map 3)),(80,(.str ((nth r.pkgs i).name))),(83,(.ptr 0 3)),(86,(.str ((nth r.pkgs i).name))),(92,(.int .i64 ((((Aq st r i).map A7).length:Int))))],[(0,(.row [(.int .i64 st.kind),(.own 1),(.own 2),(.map 3)] 75)),(1,(.grow (st.repos.map A4) 59 4)),(2,(.grow ((Aq st r i).map A7) 78 13)),(3,(.mm (A3 (Aq st r i)) none 3 1)),(4,(.row [(.str r.name),(.int .i64 r.prio),(.bool r.inst),(Af 12 An r.pkgs)] 59))],6⟩ ?_ (fun m1_14=>?_)
         ·refine Ca 9 18 (by kernel_rfl) ?_ ?_
          ·refine A2 (fuel:=4) 9 [] Av ?_
           refine As [0,3,9,69,70,71,78,80,84,86,92] ?_
           exact A0 m1_8
          ·refine A2 (fuel:=4) 18 [] Av ?_
           refine As [0,3,9,69,70,71,78,80,83,86,93] ?_
           exact A0 m1_9
         refine B5 false 5 (lsD 21 [0,1,2,4,5,6,7,8,9,10,11,12,13,14,15,16]) ⟨[(0,(.ptr 0 0)),(3,(.ptr 4 0)),(9,(.fp (An (nth r.pkgs i)))),(69,(Af 12 An r.pkgs)),(70,(.int .i64 ((r.pkgs.length:Int)))),(71,(.int .i64 ((i:Int)))),(77,(.ptr 0 3)),(80,(.str ((nth r.pkgs i).name))),(87,(.own 6)),(91,(.own 2))],[(0,(.row [(.int .i64 st.kind),(.own 1),(.own 2),(.map 3)] 75)),(1,(.grow (st.repos.map A4) 59 4)),(2,(.grow ((Aq st r i).map A7) 78 13)),(3,(.mm (A3 (Aq st r i)) (some ((nth r.pkgs i).name)) 3 1)),(4,(.row [(.str r.name),(.int .i64 r.prio),(.bool r.inst),(Af 12 An r.pkgs)] 59)),(6,(.grow ((A3 (Aq st r i)) ((nth r.pkgs i).name)) 3 1))],7⟩ ?_ (fun m1_15=>?_)
         ·refine Ca 3 17 (by kernel_rfl) ?_ ?_
          ·refine A2 (fuel:=4) 3 [] Av ?_
           refine As [0,3,9,69,70,71,78,80,87,91] ?_
           exact A0 m1_7
          ·refine A2 (fuel:=4) 17 [] Av ?_
           refine As [0,3,9,69,70,71,77,80,87,92] ?_
           exact A0 m1_10
         refine B5 true 5 (lsD 21 [0,1,2,4,5,6,7,8,9,10,11,13,14,15,16,17]) ⟨[(0,(.ptr 0 0)),(3,(.ptr 4 0)),(9,(.fp (An (nth r.pkgs i)))),(69,(Af 12 An r.pkgs)),(70,(.int .i64 ((r.pkgs.length:Int)))),(71,(.int .i64 ((i:Int)))),(77,(.ptr 0 3)),(80,(.str ((nth r.pkgs i).name))),(84,(.map 3)),(86,(.str ((nth r.pkgs i).name))),(92,(.int .i64 ((((Aq st r i).map A7).length:Int))))],[(0,(.row [(.int .i64 st.kind),(.own 1),(.own 2),(.map 3)] 75)),(1,(.grow (st.repos.map A4) 59 4)),(2,(.grow ((Aq st r i).map A7) 78 13)),(3,(.mm (A3 (Aq st r i)) none 3 1)),(4,(.row [(.str r.name),(.int .i64 r.prio),(.bool r.inst),(Af 12 An r.pkgs)] 59))],6⟩ ?_ (fun m1_16=>?_)
         ·refine Fs 3 12 18 (by kernel_rfl) ?_ ?_ ?_
          ·refine A2 (fuel:=4) 3 [] Av ?_
           refine As [0,3,9,69,70,71,78,80,84,86,92] ?_
           exact A0 m1_8
          ·refine Cf (fuel:=4) 12 rfl ?_
           refine Ey (b:=3) (s:=(nth r.pkgs i).name) (y:=⟨[(0,(.ptr 0 0)),(3,(.ptr 4 0)),(9,(.fp (An (nth r.pkgs i)))),(69,(Af 12 An r.pkgs)),(70,(.int .i64 ((r.pkgs.length:Int)))),(71,(.int .i64 ((i:Int)))),(77,(.ptr 0 3)),(80,(.str ((nth r.pkgs i).name))),(84,(.map 3)),(86,(.str ((nth r.pkgs i).name))),(92,(.int .i64 ((((Aq st r i).map A7).length:Int)))),(87,(.own 6))],[(0,(.row [(.int .i64 st.kind),(.own 1),(.own 2),(.map 3)] 75)),(1,(.grow (st.repos.map A4) 59 4)),(2,(.grow ((Aq st r i).map A7) 78 13)),(3,(.mm (A3 (Aq st r i)) (some ((nth r.pkgs i).name)) 3 1)),(4,(.row [(.str r.name),(.int .i64 r.prio),(.bool r.inst),(Af 12 An r.pkgs)] 59)),(6,(.grow ((A3 (Aq st r i)) ((nth r.pkgs i).name)) 3 1))],7⟩) (by kernel_rfl) (by kernel_rfl) (by kernel_rfl) Tryz.underlying73 Tryz.underlying9 (fun _=>by kernel_rfl) (by kernel_rfl) ?_
           refine Bo ⟨rfl,?_⟩
           refine As [0,3,9,69,70,71,77,80,87,92] ?_
           exact A0 m1_10
          ·refine A2 (fuel:=4) 18 [] Av ?_
           refine As [0,3,9,69,70,71,77,80,84,86,93] ?_
           exact A0 m1_11
         refine B5 true 6 (lsD 21 [0,1,2,3,4,5,6,7,8,9,10,11,13,14,15]) ⟨[(0,(.ptr 0 0)),(3,(.ptr 4 0)),(9,(.fp (An (nth r.pkgs i)))),(69,(Af 12 An r.pkgs)),(70,(.int .i64 ((r.pkgs.length:Int)))),(71,(.int .i64 ((i:Int)))),(78,(.map 3)),(80,(.str ((nth r.pkgs i).name))),(84,(.map 3)),(86,(.str ((nth r.pkgs i).name))),(90,(.ptr 0 2))],[(0,(.row [(.int .i64 st.kind),(.own 1),(.own 2),(.map 3)] 75)),(1,(.grow (st.repos.map A4) 59 4)),(2,(.grow ((Aq st r i).map A7) 78 13)),(3,(.mm (A3 (Aq st r i)) none 3 1)),(4,(.row [(.str r.name),(.int .i64 r.prio),(.bool r.inst),(Af 12 An r.pkgs)] 59))],6⟩ ?_ (fun m1_17=>?_)
         ·refine Ca 12 16 (by kernel_rfl) ?_ ?_
          ·refine Cf (fuel:=5) 12 rfl ?_
           refine Ey (b:=3) (s:=(nth r.pkgs i).name) (y:=⟨[(0,(.ptr 0 0)),(3,(.ptr 4 0)),(9,(.fp (An (nth r.pkgs i)))),(69,(Af 12 An r.pkgs)),(70,(.int .i64 ((r.pkgs.length:Int)))),(71,(.int .i64 ((i:Int)))),(78,(.map 3)),(80,(.str ((nth r.pkgs i).name))),(84,(.map 3)),(86,(.str ((nth r.pkgs i).name))),(90,(.ptr 0 2)),(87,(.own 6))],[(0,(.row [(.int .i64 st.kind),(.own 1),(.own 2),(.map 3)] 75)),(1,(.grow (st.repos.map A4) 59 4)),(2,(.grow ((Aq st r i).map A7) 78 13)),(3,(.mm (A3 (Aq st r i)) (some ((nth r.pkgs i).name)) 3 1)),(4,(.row [(.str r.name),(.int .i64 r.prio),(.bool r.inst),(Af 12 An r.pkgs)] 59)),(6,(.grow ((A3 (Aq st r i)) ((nth r.pkgs i).name)) 3 1))],7⟩) (by kernel_rfl) (by kernel_rfl) (by kernel_rfl) Tryz.underlying73 Tryz.underlying9 (fun _=>by kernel_rfl) (by kernel_rfl) ?_
           refine Bo ⟨rfl,?_⟩
           refine As [0,3,9,69,70,71,78,80,87,90] ?_
           exact A0 m1_12
          ·refine A2 (fuel:=5) 16 [] Av ?_
           refine As [0,3,9,69,70,71,78,80,84,86,91] ?_
           exact A0 m1_13
         refine B5 true 6 (lsD 21 [0,1,2,3,4,5,6,7,8,10,11,13,14,15,16]) ⟨[(0,(.ptr 0 0)),(3,(.ptr 4 0)),(9,(.fp (An (nth r.pkgs i)))),(69,(Af 12 An r.pkgs)),(70,(.int .i64 ((r.pkgs.length:Int)))),(71,(.int .i64 ((i:Int)))),(78,(.map 3)),(80,(.str ((nth r.pkgs i).name))),(83,(.ptr 0 3)),(86,(.str ((nth r.pkgs i).name))),(91,(.own 2))],[(0,(.row [(.int .i64 st.kind),(.own 1),(.own 2),(.map 3)] 75)),(1,(.grow (st.repos.map A4) 59 4)),(2,(.grow ((Aq st r i).map A7) 78 13)),(3,(.mm (A3 (Aq st r i)) none 3 1)),(4,(.row [(.str r.name),(.int .i64 r.prio),(.bool r.inst),(Af 12 An r.pkgs)] 59))],6⟩ ?_ (fun m1_18=>?_)
         ·refine Ca 9 17 (by kernel_rfl) ?_ ?_
          ·refine A2 (fuel:=5) 9 [] Av ?_
           refine As [0,3,9,69,70,71,78,80,84,86,91] ?_
           exact A0 m1_13
          ·refine A2 (fuel:=5) 17 [] Av ?_
           refine As [0,3,9,69,70,71,78,80,83,86,92] ?_
           exact A0 m1_14
         refine B5 true 6 (lsD 21 [0,1,2,4,5,6,7,8,9,10,11,13,14,15,16]) ⟨[(0,(.ptr 0 0)),(3,(.ptr 4 0)),(9,(.fp (An (nth r.pkgs i)))),(69,(Af 12 An r.pkgs)),(70,(.int .i64 ((r.pkgs.length:Int)))),(71,(.int .i64 ((i:Int)))),(77,(.ptr 0 3)),(80,(.str ((nth r.pkgs i).name))),(84,(.map 3)),(86,(.str ((nth r.pkgs i).name))),(91,(.own 2))],[(0,(.row [(.int .i64 st.kind),(.own 1),(.own 2),(.map 3)] 75)),(1,(.grow (st.repos.map A4) 59 4)),(2,(.grow ((Aq st r i).map A7) 78 13)),(3,(.mm (A3 (Aq st r i)) none 3 1)),(4,(.row [(.str r.name),(.int .i64 r.prio),(.bool r.inst),(Af 12 An r.pkgs)] 59))],6⟩ ?_ (fun m1_19=>?_)
         ·refine Fs 3 12 17 (by kernel_rfl) ?_ ?_ ?_
          ·refine A2 (fuel:=5) 3 [] Av ?_
           refine As [0,3,9,69,70,71,78,80,84,86,91] ?_
           exact A0 m1_13
          ·refine Cf (fuel:=5) 12 rfl ?_
           refine Ey (b:=3) (s:=(nth r.pkgs i).name) (y:=⟨[(0,(.ptr 0 0)),(3,(.ptr 4 0)),(9,(.fp (An (nth r.pkgs i)))),(69,(Af 12 An r.pkgs)),(70,(.int .i64 ((r.pkgs.length:Int)))),(71,(.int .i64 ((i:Int)))),(77,(.ptr 0 3)),(80,(.str ((nth r.pkgs i).name))),(84,(.map 3)),(86,(.str ((nth r.pkgs i).name))),(91,(.own 2)),(87,(.own 6))],[(0,(.row [(.int .i64 st.kind),(.own 1),(.own 2),(.map 3)] 75)),(1,(.grow (st.repos.map A4) 59 4)),(2,(.grow ((Aq st r i).map A7) 78 13)),(3,(.mm (A3 (Aq st r i)) (some ((nth r.pkgs i).name)) 3 1)),(4,(.row [(.str r.name),(.int .i64 r.prio),(.bool r.inst),(Af 12 An r.pkgs)] 59)),(6,(.grow ((A3 (Aq st r i)) ((nth r.pkgs i).name)) 3 1))],7⟩) (by kernel_rfl) (by kernel_rfl) (by kernel_rfl) Tryz.underlying73 Tryz.underlying9 (fun _=>by kernel_rfl) (by kernel_rfl) ?_
           refine Bo ⟨rfl,?_⟩
           refine As [0,3,9,69,70,71,77,80,87,91] ?_
           exact A0 m1_15
          ·refine A2 (fuel:=5) 17 [] Av ?_
           refine As [0,3,9,69,70,71,77,80,84,86,92] ?_
           exact A0 m1_16
         refine Ck (fuel:=8) [] [0,1,2,4,5,6,7,8,10,11,13,14,15] [0,3,9,69,70,71,77,80,83,86,90] Av ?_
         refine Fs 3 9 16 (by kernel_rfl) ?_ ?_ ?_
         ·refine A2 (fuel:=7) 3 [] Av ?_
          refine As [0,3,9,69,70,71,78,80,83,86,90] ?_
          refine Ca 9 16 (by kernel_rfl) ?_ ?_
          ·refine A2 (fuel:=6) 9 [] Av ?_
           refine As [0,3,9,69,70,71,78,80,84,86,90] ?_
           exact A0 m1_17
          ·refine A2 (fuel:=6) 16 [] Av ?_
           refine As [0,3,9,69,70,71,78,80,83,86,91] ?_
           exact A0 m1_18
         ·refine A2 (fuel:=7) 9 [] Av ?_
          refine As [0,3,9,69,70,71,77,80,84,86,90] ?_
          refine Fs 3 12 16 (by kernel_rfl) ?_ ?_ ?_
          ·refine A2 (fuel:=6) 3 [] Av ?_
           refine As [0,3,9,69,70,71,78,80,84,86,90] ?_
           exact A0 m1_17
          ·refine Cf (fuel:=6) 12 rfl ?_
           refine Ey (b:=3) (s:=(nth r.pkgs i).name) (y:=⟨[(0,(.ptr 0 0)),(3,(.ptr 4 0)),(9,(.fp (An (nth r.pkgs i)))),(69,(Af 12 An r.pkgs)),(70,(.int .i64 ((r.pkgs.length:Int)))),(71,(.int .i64 ((i:Int)))),(77,(.ptr 0 3)),(80,(.str ((nth r.pkgs i).name))),(84,(.map 3)),(86,(.str ((nth r.pkgs i).name))),(90,(.ptr 0 2)),(87,(.own 6))],[(0,(.row [(.int .i64 st.kind),(.own 1),(.own 2),(.map 3)] 75)),(1,(.grow (st.repos.map A4) 59 4)),(2,(.grow ((Aq st r i).map A7) 78 13)),(3,(.mm (A3 (Aq st r i)) (some ((nth r.pkgs i).name)) 3 1)),(4,(.row [(.str r.name),(.int .i64 r.prio),(.bool r.inst),(Af 12 An r.pkgs)] 59)),(6,(.grow ((A3 (Aq st r i)) ((nth r.pkgs i).name)) 3 1))],7⟩) (by kernel_rfl) (by kernel_rfl) (by kernel_rfl) Tryz.underlying73 Tryz.underlying9 (fun _=>by kernel_rfl) (by kernel_rfl) ?_
           refine Bo ⟨rfl,?_⟩
           refine As [0,3,9,69,70,71,77,80,87,90] ?_
           refine Ca 3 16 (by kernel_rfl) ?_ ?_
           ·refine A2 (fuel:=5) 3 [] Av ?_
            refine As [0,3,9,69,70,71,78,80,87,90] ?_
            exact A0 m1_12
           ·refine A2 (fuel:=5) 16 [] Av ?_
            refine As [0,3,9,69,70,71,77,80,87,91] ?_
            exact A0 m1_15
          ·refine A2 (fuel:=6) 16 [] Av ?_
           refine As [0,3,9,69,70,71,77,80,84,86,91] ?_
           exact A0 m1_19
         ·refine A2 (fuel:=7) 16 [] Av ?_
          refine As [0,3,9,69,70,71,77,80,83,86,91] ?_
          refine Fs 3 9 17 (by kernel_rfl) ?_ ?_ ?_
          ·refine A2 (fuel:=6) 3 [] Av ?_
           refine As [0,3,9,69,70,71,78,80,83,86,91] ?_
           exact A0 m1_18
          ·refine A2 (fuel:=6) 9 [] Av ?_
           refine As [0,3,9,69,70,71,77,80,84,86,91] ?_
           exact A0 m1_19
          ·refine A2 (fuel:=6) 17 [] Av ?_
           refine As [0,3,9,69,70,71,77,80,83,86,92] ?_
           refine Fs 3 9 18 (by kernel_rfl) ?_ ?_ ?_
           ·refine A2 (fuel:=5) 3 [] Av ?_
            refine As [0,3,9,69,70,71,78,80,83,86,92] ?_
            exact A0 m1_14
           ·refine A2 (fuel:=5) 9 [] Av ?_
            refine As [0,3,9,69,70,71,77,80,84,86,92] ?_
            exact A0 m1_16
           ·refine A2 (fuel:=5) 18 [] Av ?_
            refine As [0,3,9,69,70,71,77,80,83,86,93] ?_
            refine Ca 3 9 (by kernel_rfl) ?_ ?_
            ·refine A2 (fuel:=4) 3 [] Av ?_
             refine As [0,3,9,69,70,71,78,80,83,86,93] ?_
             exact A0 m1_9
            ·refine A2 (fuel:=4) 9 [] Av ?_
             refine As [0,3,9,69,70,71,77,80,84,86,93] ?_
             exact A0 m1_11
        ·rintro y3 rfl
         refine Gr [] [0,3,69,70,71] [] (hk 6 Q0i (Q1d (nth r.pkgs i) (by have:=(nth r.pkgs i).sizes;have:=hp i (by omega);omega) (by have:=(nth r.pkgs i).sizes;have:=Kk (nth r.pkgs i).files;have:=hp i (by omega);omega))<|hk0) v0 (cc 14 (p:=((((Aq st r i).map A7).length+1)*264≤140737488355328)) (by omega)<|c0) ?_
         refine⟨by kernel_rfl,(Eq.trans (b:=(⟨[(0,(.ptr 0 0)),(3,(.ptr 4 0)),(69,(Af 12 An r.pkgs)),(70,(.int .i64 ((r.pkgs.length:Int)))),(71,(.int .i64 ((i:Int))))],[(0,(.row [(.int .i64 st.kind),(.own 1),(.own 2),(.map 3)] 75)),(1,(.grow (st.repos.map A4) 59 4)),(2,(.grow (((Aq st r i).map A7)++([(.agg [(.str ((nth r.pkgs i).name)),(.str ((nth r.pkgs i).evr)),(.str ((nth r.pkgs i).arch)),(.str ((nth r.pkgs i).vendor)),(Af 5 Am ((nth r.pkgs i).provides)),(Af 5 Am ((nth r.pkgs i).requires)),(Af 5 Am ((nth r.pkgs i).pre)),(Af 5 Am ((nth r.pkgs i).conflicts)),(Af 5 Am ((nth r.pkgs i).obsoletes)),(Af 5 Am ((nth r.pkgs i).recommends)),(Af 5 Am ((nth r.pkgs i).supplements)),(B1 ((nth r.pkgs i).files)),(.int .i64 (((st.repos.map A4).length:Int)))])]:List AV)) 78 13)),(3,(.mm (A3 (Aq st r i++[(nth r.pkgs i,(st.repos.length:Int))])) none 3 1)),(4,(.row [(.str r.name),(.int .i64 r.prio),(.bool r.inst),(Af 12 An r.pkgs)] 59))],5⟩:St)) (by kernel_rfl) (by rw[show(((Aq st r i).map A7)++([(.agg [(.str ((nth r.pkgs i).name)),(.str ((nth r.pkgs i).evr)),(.str ((nth r.pkgs i).arch)),(.str ((nth r.pkgs i).vendor)),(Af 5 Am ((nth r.pkgs i).provides)),(Af 5 Am ((nth r.pkgs i).requires)),(Af 5 Am ((nth r.pkgs i).pre)),(Af 5 Am ((nth r.pkgs i).conflicts)),(Af 5 Am ((nth r.pkgs i).obsoletes)),(Af 5 Am ((nth r.pkgs i).recommends)),(Af 5 Am ((nth r.pkgs i).supplements)),(B1 ((nth r.pkgs i).files)),(.int .i64 (((st.repos.map A4).length:Int)))])]:List AV))=(Aq st r i++[(nth r.pkgs i,(st.repos.length:Int))]).map A7 from by rw[List.map_append,List.length_map];rfl]<;>kernel_rfl))⟩
       ·rintro y2 rfl
        refine Ar ?_
        refine Aw 0 [] [0,3,69,70,71] [] hk0 v0 (cc 0 (p:=(-9223372036854775808≤(i:Int)+1∧(i:Int)+1≤9223372036854775807)) (by omega)<|c0) ?_
        refine⟨by kernel_rfl,_,?_,i+1,?_,(Eq.trans (b:=(⟨[(0,(.ptr 0 0)),(3,(.ptr 4 0)),(69,(Af 12 An r.pkgs)),(70,(.int .i64 ((r.pkgs.length:Int)))),(71,(.int .i64 ((i:Int)+1)))],[(0,(.row [(.int .i64 st.kind),(.own 1),(.own 2),(.map 3)] 75)),(1,(.grow (st.repos.map A4) 59 4)),(2,(.grow ((Aq st r i++[(nth r.pkgs i,(st.repos.length:Int))]).map A7) 78 13)),(3,(.mm (A3 (Aq st r i++[(nth r.pkgs i,(st.repos.length:Int))])) none 3 1)),(4,(.row [(.str r.name),(.int .i64 r.prio),(.bool r.inst),(Af 12 An r.pkgs)] 59))],5⟩:St)) (by kernel_rfl) (by rw[←Q83 (by omega)]<;>kernel_rfl)),rfl⟩
        ·omega
        ·omega
      ·refine Bq ?_
       refine Aa [] [0,3] ?_
       refine Db (fun y=>y=⟨[],[(0,(.row [(.int .i64 st.kind),(.own 1),(.own 2),(.map 3)] 75)),(1,(.grow ((st.repos++[r]).map A4) 59 4)),(2,(.grow ((Aq st r i).map A7) 78 13)),(3,(.mm (A3 (Aq st r i)) none 3 1)),(4,(.row [(.str r.name),(.int .i64 r.prio),(.bool r.inst),.nils] 59))],5⟩) [] 5 (by omega) ?_ ?_
       ·refine Gr [] [] [] hk0 v0 (cc 7 (p:=(((st.repos.map A4).length+1)*56≤140737488355328)) (by omega)<|c0) ?_
        refine⟨by kernel_rfl,(Eq.trans (b:=(⟨[],[(0,(.row [(.int .i64 st.kind),(.own 1),(.own 2),(.map 3)] 75)),(1,(.grow ((st.repos.map A4)++([(.agg [(.str r.name),(.int .i64 r.prio),(.bool r.inst),.nils])]:List AV)) 59 4)),(2,(.grow ((Aq st r i).map A7) 78 13)),(3,(.mm (A3 (Aq st r i)) none 3 1)),(4,(.row [(.str r.name),(.int .i64 r.prio),(.bool r.inst),.nils] 59))],5⟩:St)) (by kernel_rfl) (by rw[show((st.repos.map A4)++([(.agg [(.str r.name),(.int .i64 r.prio),(.bool r.inst),.nils])]:List AV))=(st.repos++[r]).map A4 from by rw[List.map_append];rfl]<;>kernel_rfl))⟩
       ·rintro y4 rfl
        refine Aa [] [4] ?_
        refine Ac ?_
        refine D0 (.inl rfl) (al:=[(.int .i64 0)]) (by kernel_rfl) ?_ ((by kernel_rfl:Cj 4 _=some [(0,(.row [(.int .i64 st.kind),(.own 1),(.own 2),(.map 3)] 75)),(1,(.grow ((st.repos++[r]).map A4) 59 4)),(2,(.grow ((Aq st r i).map A7) 78 13)),(3,(.mm (A3 (Aq st r i)) none 3 1))]).trans ?_)
        all_goals have hE:B9 st r=0:=by unfold B9;rw[if_neg (by simp only[not_or];simp_all),if_neg (by rintro⟨h1,h2⟩;rw[h1,h2] at c2;simp at c2),if_neg (by omega)];exact Zy fun j hj=>f1_2 j (by omega)
        ·rw[hE];rfl
        ·unfold B3;rw[if_pos hE,show i=r.pkgs.length from by omega]
end Sv
end
section
open Go Go.RowKit
namespace Sv
attribute [local irreducible] SW SO Bh
set_option maxHeartbeats 1000000
set_option maxRecDepth 100000
theorem X1s:Aj Tryz.prog 20:=Ap Tryz.func20 (by kernel_rfl) rfl
noncomputable def atX (p:Int × Int):AV:=.agg [.int .i64 p.1,.int .i64 p.2]
def Ch (pl:List (Int × Int)) (st:PoolT) (r:RepoT) (i:Nat):List (Int × Int):=pl++(List.range i).map fun (k:Nat)=>((st.repos.length:Int),(k:Int))
def En (pl:List (Int × Int)) (st:PoolT) (r:RepoT):List (Int × Int):=if B9 st r=0 then Ch pl st r r.pkgs.length else pl
theorem Nx {pl:List (Int × Int)} {st:PoolT} {r:RepoT} {e:Int} (h:B9 st r=e) (he:e≠0):En pl st r=pl:=by unfold En;rw[if_neg (by rw[h];exact he)]
theorem X4d {pl:List (Int × Int)} {st:PoolT} {r:RepoT} {i:Nat}:Ch pl st r (i+1)=Ch pl st r i++[((st.repos.length:Int),(i:Int))]:=by
 unfold Ch
 rw[List.range_succ,List.map_append,List.append_assoc];rfl
theorem X4e {pl:List (Int × Int)} {st:PoolT} {r:RepoT} {i:Nat}:(Ch pl st r i).length=pl.length+i:=by unfold Ch;simp
theorem Q15 {α:Type} [Inhabited α] {p:α→Bool} {l:List α} {i:Nat} (hi:i < l.length) (h:p (nth l i)=true):l.any p=true:=by
 rw[List.any_eq_true]
 exact⟨nth l i,by simp[nth,hi],h⟩
theorem Kq {α:Type} [Inhabited α] {p:α→Bool} {l:List α} (h:∀i,i < l.length→p (nth l i)=false):l.any p=false:=by
 rw[List.any_eq_false]
 intro x hx
 obtain⟨j,hj,rfl⟩:=List.getElem_of_mem hx
 have:=h j hj
 simpa [nth,hj] using this
theorem Q6i (st : PoolT) (pl : List (Int × Int)) (r : RepoT) (hr : st.repos.length ≤ 8) (ha : st.all.length ≤ 200) (hpa : pl.length = st.all.length) (hn : r.name.length ≤ 4194304) (hpl : r.pkgs.length ≤ 4194304) (hp : ∀ i, i < r.pkgs.length → (nth r.pkgs i).size ≤ 4194304) :
  Fc Tryz.prog 20 [(.ptr 0 0),(.agg [(.str r.name),(.int .i64 r.prio),(.bool r.inst),(Af 12 An r.pkgs)])] [(0,(.row [(.int .i64 st.kind),(.own 1),(.own 2)] 87)),(1,(.grow (st.repos.map Bb) 59 4)),(2,(.grow (pl.map atX) 91 2))] 3 (.int .i64 (B9 st r)) [(0,(.row [(.int .i64 ((B3 st r).kind)),(.own 1),(.own 2)] 87)),(1,(.grow ((B3 st r).repos.map Bb) 59 4)),(2,(.grow ((En pl st r).map atX) 91 2))]:=by
 have hml:(st.repos.map Bb).length=st.repos.length:=List.length_map _
 have hma:(pl.map atX).length=pl.length:=List.length_map _
 refine Kz [.tmp 4] Tryz.func20 rfl Tryz.ntmps20 rfl rfl (by kernel_rfl) (by kernel_rfl) (by kernel_rfl) (fun B F hF=>?_)
 refine Ae [] [0,3] [(1,3)] hk0 v0 c0 ?_
 refine Ae [] [0,3,5] [] (hk 2 Nn (O7 r.name (by omega))<|hk0) v0 c0 ?_
 refine Ab ?_
 refine Aa [] [0,3,15] ?_
 refine Be (q:=!(Bc r.name)) (by kernel_rfl) (fun c1=>?_) (fun c1=>?_)
 ·try simp only[Ao] at c1
  refine Aa [] [4] ?_
  refine Ac ?_
  refine D0 (.inl rfl) (al:=[(.int .i64 66)]) (by kernel_rfl) ?_ ((by kernel_rfl:Cj 3 _=some [(0,(.row [(.int .i64 st.kind),(.own 1),(.own 2)] 87)),(1,(.grow (st.repos.map Bb) 59 4)),(2,(.grow (pl.map atX) 91 2))]).trans ?_)
  all_goals have hE:B9 st r=66:=by unfold B9;rw[if_pos (.inl c1)]
  ·rw[hE];rfl
  ·rw[Iv hE (by decide),Nx hE (by decide)]
 ·try simp only[Ao] at c1
  refine Ah ?_
  refine Ab ?_
  refine Aa [] [0,3,6] ?_
  refine Ax ?_
  refine B4 (fun g y=>∃(i:Nat),i≤st.repos.length∧(∀j,j < i→¬(nth st.repos j).name=r.name)∧y=⟨[(0,(.ptr 0 0)),(3,(.fp (.agg [(.str r.name),(.int .i64 r.prio),(.bool r.inst),(Af 12 An r.pkgs)]))),(6,(.int .i64 ((i:Int))))],[(0,(.row [(.int .i64 st.kind),(.own 1),(.own 2)] 87)),(1,(.grow (st.repos.map Bb) 59 4)),(2,(.grow (pl.map atX) 91 2))],4⟩∧g=st.repos.length-i) [0,3,6] 4 _ (by omega) ⟨0,(by omega),(by exact fun j hj=>by omega),(by kernel_rfl),rfl⟩ ?_
  rintro g1 y1 ⟨i,f1_1,f1_2,rfl,rfl⟩
  refine Ab ?_
  refine Aa [] [0,3,6,22] ?_
  refine Ba (p:=(i:Int) < ((st.repos.map Bb).length:Int)) (by kernel_rfl) (fun c2=>?_) (fun c2=>?_)
  ·refine Ah ?_
   refine Ab ?_
   refine Ax ?_
   refine Ab ?_
   refine Iz (by kernel_rfl) (fun F1 hF1=>?_)
   refine Ck (fuel:=5) [] [0,1,2,4,8,9] [0,3,6,27,29,34] Av ?_
   refine Cq (fuel:=4) 3 [] Av ?_
   refine Ep (fuel:=3) 5 (by kernel_rfl) ?_
   refine Cf (fuel:=3) 5 rfl ?_
   refine Q2 (b:=1) (i:=i) (es:=st.repos.map Bb) (e:=59) (sz:=4) (k:=.i64) (s':=[(0,(.ptr 0 0)),(3,(.fp (.agg [(.str r.name),(.int .i64 r.prio),(.bool r.inst),(Af 12 An r.pkgs)]))),(6,(.int .i64 ((i:Int)))),(27,(.ptr 0 1)),(29,(.int .i64 ((i:Int)))),(34,(.str r.name)),(28,(.own 1)),(30,(.op 1 (i*4)))]) (by kernel_rfl) (by kernel_rfl) (by kernel_rfl) (by kernel_rfl) (by kernel_rfl) (by kernel_rfl) (by(rw[List.length_map];omega)) (by kernel_rfl) ?_
   refine Bo ⟨rfl,?_⟩
   refine Ep (fuel:=2) 6 (by kernel_rfl) ?_
   refine Cf (fuel:=2) 6 rfl ?_
   refine Uo (b:=1) (o:=i*4) (off:=0) (s':=[(0,(.ptr 0 0)),(3,(.fp (.agg [(.str r.name),(.int .i64 r.prio),(.bool r.inst),(Af 12 An r.pkgs)]))),(6,(.int .i64 ((i:Int)))),(27,(.ptr 0 1)),(29,(.int .i64 ((i:Int)))),(34,(.str r.name)),(28,(.own 1)),(30,(.op 1 (i*4))),(31,(.op 1 (i*4+0)))]) (by kernel_rfl) (by kernel_rfl) (by kernel_rfl) (by kernel_rfl) ?_
   refine Bo ⟨rfl,?_⟩
   refine Ep (fuel:=1) 7 (by kernel_rfl) ?_
   refine Cf (fuel:=1) 7 rfl ?_
   refine Un (b:=1) (e:=59) (sz:=4) (es:=st.repos.map Bb) (o:=i*4+0) (i:=i) (j:=0) (a:=(.agg [(.str ((nth st.repos i).name)),(.int .i64 ((nth st.repos i).prio)),(.bool ((nth st.repos i).inst)),(Af 12 An ((nth st.repos i).pkgs))])) (r:=(.str ((nth st.repos i).name))) (s':=[(0,(.ptr 0 0)),(3,(.fp (.agg [(.str r.name),(.int .i64 r.prio),(.bool r.inst),(Af 12 An r.pkgs)]))),(6,(.int .i64 ((i:Int)))),(27,(.ptr 0 1)),(29,(.int .i64 ((i:Int)))),(34,(.str r.name)),(28,(.own 1)),(30,(.op 1 (i*4))),(31,(.op 1 (i*4+0))),(32,(.str ((nth st.repos i).name)))]) (by kernel_rfl) (by kernel_rfl) rfl (by kernel_rfl) (P3 (l:=st.repos) Bb (by omega)) (by kernel_rfl) (by kernel_rfl) ?_
   refine Bo ⟨rfl,?_⟩
   refine Ck (fuel:=0) [] [10] [0,3,6,35] Av ?_
   refine As [0,3,6,35] ?_
   refine Hd (by kernel_rfl) ?_
   refine Ba (p:=(nth st.repos i).name=r.name) (by kernel_rfl) (fun c3=>?_) (fun c3=>?_)
   ·refine Aa [] [4] ?_
    refine Ac ?_
    refine D0 (.inl rfl) (al:=[(.int .i64 66)]) (by kernel_rfl) ?_ ((by kernel_rfl:Cj 3 _=some [(0,(.row [(.int .i64 st.kind),(.own 1),(.own 2)] 87)),(1,(.grow (st.repos.map Bb) 59 4)),(2,(.grow (pl.map atX) 91 2))]).trans ?_)
    all_goals have hE:B9 st r=66:=by unfold B9;rw[if_pos (.inr (Q15 (i:=i) (by omega) (decide_eq_true (by assumption))))]
    ·rw[hE];rfl
    ·rw[Iv hE (by decide),Nx hE (by decide)]
   ·refine Ah ?_
    refine Ar ?_
    refine Aw 0 [] [0,3,6] [] hk0 v0 (cc 1 (p:=(-9223372036854775808≤(i:Int)+1∧(i:Int)+1≤9223372036854775807)) (by omega)<|c0) ?_
    refine⟨by kernel_rfl,_,?_,i+1,?_,?_,(by kernel_rfl),rfl⟩
    ·omega
    ·omega
    ·intro j hj
     by_cases h:j=i
     ·subst h;assumption
     ·exact f1_2 j (by omega)
  ·refine Bq ?_
   refine Ab ?_
   refine Aa [] [0,3,7] ?_
   refine Ax ?_
   refine B4 (fun g y=>∃(i:Nat),i≤st.repos.length∧(∀j,j < i→(r.inst&&(nth st.repos j).inst)=false)∧y=⟨[(0,(.ptr 0 0)),(3,(.fp (.agg [(.str r.name),(.int .i64 r.prio),(.bool r.inst),(Af 12 An r.pkgs)]))),(7,(.int .i64 ((i:Int))))],[(0,(.row [(.int .i64 st.kind),(.own 1),(.own 2)] 87)),(1,(.grow (st.repos.map Bb) 59 4)),(2,(.grow (pl.map atX) 91 2))],4⟩∧g=st.repos.length-i) [0,3,7] 4 _ (by omega) ⟨0,(by omega),(by exact fun j hj=>by omega),(by kernel_rfl),rfl⟩ ?_
   rintro g2 y2 ⟨i,f2_1,f2_2,rfl,rfl⟩
   refine Ab ?_
   refine Aa [] [0,3,7,42] ?_
   refine Ba (p:=(i:Int) < ((st.repos.map Bb).length:Int)) (by kernel_rfl) (fun c4=>?_) (fun c4=>?_)
   ·refine Ah ?_
    refine Ab ?_
    refine Ax ?_
    refine Ab ?_
    refine Ar ?_
    refine Bm 3 0 [] [0,3,7,47] [] hk0 v0 c0 ?_
    refine Hy r.inst (fun c5=>?_) (fun c5=>?_)
    ·refine Js 47 (a:=.bool r.inst) (.bool true) (by kernel_rfl) (Imp.of_eq (by rw[c5])) ?_
     refine Bm 5 3 [] [0,3,7,47,51,52] [] hk0 v0 c0 ?_
     refine Q2 (b:=1) (i:=i) (es:=st.repos.map Bb) (e:=59) (sz:=4) (k:=.i64) (s':=[(0,(.ptr 0 0)),(3,(.fp (.agg [(.str r.name),(.int .i64 r.prio),(.bool r.inst),(Af 12 An r.pkgs)]))),(7,(.int .i64 ((i:Int)))),(47,(.bool true)),(51,(.own 1)),(52,(.int .i64 ((i:Int)))),(53,(.op 1 (i*4)))]) (by kernel_rfl) (by kernel_rfl) (by kernel_rfl) (by kernel_rfl) (by kernel_rfl) (by kernel_rfl) (by(rw[List.length_map];omega)) (by kernel_rfl) ?_
     refine Uo (b:=1) (o:=i*4) (off:=2) (s':=[(0,(.ptr 0 0)),(3,(.fp (.agg [(.str r.name),(.int .i64 r.prio),(.bool r.inst),(Af 12 An r.pkgs)]))),(7,(.int .i64 ((i:Int)))),(47,(.bool true)),(51,(.own 1)),(52,(.int .i64 ((i:Int)))),(53,(.op 1 (i*4))),(54,(.op 1 (i*4+2)))]) (by kernel_rfl) (by kernel_rfl) (by kernel_rfl) (by kernel_rfl) ?_
     refine Un (b:=1) (e:=59) (sz:=4) (es:=st.repos.map Bb) (o:=i*4+2) (i:=i) (j:=2) (a:=(.agg [(.str ((nth st.repos i).name)),(.int .i64 ((nth st.repos i).prio)),(.bool ((nth st.repos i).inst)),(Af 12 An ((nth st.repos i).pkgs))])) (r:=(.bool ((nth st.repos i).inst))) (s':=[(0,(.ptr 0 0)),(3,(.fp (.agg [(.str r.name),(.int .i64 r.prio),(.bool r.inst),(Af 12 An r.pkgs)]))),(7,(.int .i64 ((i:Int)))),(47,(.bool true)),(51,(.own 1)),(52,(.int .i64 ((i:Int)))),(53,(.op 1 (i*4))),(54,(.op 1 (i*4+2))),(55,(.bool ((nth st.repos i).inst)))]) (by kernel_rfl) (by kernel_rfl) rfl (by kernel_rfl) (P3 (l:=st.repos) Bb (by omega)) (by kernel_rfl) (by kernel_rfl) ?_
     refine Aw 11 [] [0,3,7,56] [] hk0 v0 c0 ?_
     refine Be (q:=(nth st.repos i).inst) (by kernel_rfl) (fun c6=>?_) (fun c6=>?_)
     ·try simp only[Ao] at c6
      refine Aa [] [4] ?_
      refine Ac ?_
      refine D0 (.inl rfl) (al:=[(.int .i64 67)]) (by kernel_rfl) ?_ ((by kernel_rfl:Cj 3 _=some [(0,(.row [(.int .i64 st.kind),(.own 1),(.own 2)] 87)),(1,(.grow (st.repos.map Bb) 59 4)),(2,(.grow (pl.map atX) 91 2))]).trans ?_)
      all_goals have hN:=Kq (l:=st.repos) (p:=fun o=>decide (o.name=r.name)) (fun j hj=>by simpa using f1_2 j (by omega))
      all_goals have hA:¬(Bc r.name=false∨st.repos.any (fun o=>decide (o.name=r.name))=true):=fun h=>h.elim (fun h=>by rw[c1] at h;cases h) (fun h=>by rw[hN] at h;cases h)
      all_goals have hE:B9 st r=67:=by unfold B9;rw[if_neg hA,if_pos ⟨by assumption,Q15 (i:=i) (by omega) (by assumption)⟩]
      ·rw[hE];rfl
      ·rw[Iv hE (by decide),Nx hE (by decide)]
     ·try simp only[Ao] at c6
      refine Ah ?_
      refine Ar ?_
      refine Aw 0 [] [0,3,7] [] hk0 v0 (cc 1 (p:=(-9223372036854775808≤(i:Int)+1∧(i:Int)+1≤9223372036854775807)) (by omega)<|c0) ?_
      refine⟨by kernel_rfl,_,?_,i+1,?_,?_,(by kernel_rfl),rfl⟩
      ·omega
      ·omega
      ·intro j hj
       by_cases h:j=i
       ·subst h;simp_all
       ·exact f2_2 j (by omega)
    ·refine Js 47 (a:=.bool r.inst) (.bool false) (by kernel_rfl) (Imp.of_eq (by rw[c5])) ?_
     refine Aw 3 [] [0,3,7,56] [] hk0 v0 c0 ?_
     refine Dp (by kernel_rfl) ?_
     refine Ah ?_
     refine Ar ?_
     refine Aw 0 [] [0,3,7] [] hk0 v0 (cc 1 (p:=(-9223372036854775808≤(i:Int)+1∧(i:Int)+1≤9223372036854775807)) (by omega)<|c0) ?_
     refine⟨by kernel_rfl,_,?_,i+1,?_,?_,(by kernel_rfl),rfl⟩
     ·omega
     ·omega
     ·intro j hj
      by_cases h:j=i
      ·subst h;simp_all
      ·exact f2_2 j (by omega)
   ·refine Bq ?_
    refine Ab ?_
    refine Db (fun y=>y=⟨[(0,(.ptr 0 0)),(3,(.fp (.agg [(.str r.name),(.int .i64 r.prio),(.bool r.inst),(Af 12 An r.pkgs)]))),(74,(.bool (decide ((8:Int)≤((st.repos.map Bb).length:Int))||decide ((200:Int) < ((pl.map atX).length:Int)+(r.pkgs.length:Int)))))],[(0,(.row [(.int .i64 st.kind),(.own 1),(.own 2)] 87)),(1,(.grow (st.repos.map Bb) 59 4)),(2,(.grow (pl.map atX) 91 2))],4⟩) [0,3,74] 4 (by omega) ?_ ?_
    ·refine Gr (CS:=[(8,((!(decide (8≤((st.repos.map Bb).length:Int))))=true→(!(decide (8≤((st.repos.map Bb).length:Int))))=true)),(9,((!(decide (8≤((st.repos.map Bb).length:Int))))=true→(!(decide (8≤((st.repos.map Bb).length:Int))))=true)),(10,((!(decide (8≤((st.repos.map Bb).length:Int))))=true→(!(decide (8≤((st.repos.map Bb).length:Int))))=true)),(11,((!(decide (8≤((st.repos.map Bb).length:Int))))=true→(!(decide (8≤((st.repos.map Bb).length:Int))))=true)),(13,((!(decide (8≤((st.repos.map Bb).length:Int))))=true→(!(decide (8≤((st.repos.map Bb).length:Int))))=true)),(14,((!(decide (8≤((st.repos.map Bb).length:Int))))=true→(!(decide (8≤((st.repos.map Bb).length:Int))))=true)),(15,((!(decide (8≤((st.repos.map Bb).length:Int))))=true→((!(decide (8≤((st.repos.map Bb).length:Int))))=true∧(!(decide (8≤((st.repos.map Bb).length:Int))))=true)∧(-9223372036854775808≤((pl.map atX).length:Int)+(r.pkgs.length:Int)∧((pl.map atX).length:Int)+(r.pkgs.length:Int)≤9223372036854775807))),(16,((!(decide (8≤((st.repos.map Bb).length:Int))))=true→(!(decide (8≤((st.repos.map Bb).length:Int))))=true)),(17,((decide (8≤((st.repos.map Bb).length:Int)))=false→(!(decide (8≤((st.repos.map Bb).length:Int))))=true))]) [64,65,66,67,68,69,70,71,72,73] [0,3,74] [] hk0 v0 (by refine cc _ ?_<|cc _ ?_<|cc _ ?_<|cc _ ?_<|cc _ ?_<|cc _ ?_<|cc _ ?_<|cc _ ?_<|cc _ ?_ c0<;>first|omega|(simp;omega)|(simp;done)|(intros;simp_all;omega)|(intros;simp_all;done)) ?_
     refine⟨by kernel_rfl,(by kernel_rfl)⟩
    ·rintro y1 rfl
     refine Be (q:=decide ((8:Int)≤((st.repos.map Bb).length:Int))||decide ((200:Int) < ((pl.map atX).length:Int)+(r.pkgs.length:Int))) (by kernel_rfl) (fun c7=>?_) (fun c7=>?_)
     ·try simp only[Ao] at c7
      refine Aa [] [4] ?_
      refine Ac ?_
      refine D0 (.inl rfl) (al:=[(.int .i64 68)]) (by kernel_rfl) ?_ ((by kernel_rfl:Cj 3 _=some [(0,(.row [(.int .i64 st.kind),(.own 1),(.own 2)] 87)),(1,(.grow (st.repos.map Bb) 59 4)),(2,(.grow (pl.map atX) 91 2))]).trans ?_)
      all_goals have hN:=Kq (l:=st.repos) (p:=fun o=>decide (o.name=r.name)) (fun j hj=>by simpa using f1_2 j (by omega))
      all_goals have hA:¬(Bc r.name=false∨st.repos.any (fun o=>decide (o.name=r.name))=true):=fun h=>h.elim (fun h=>by rw[c1] at h;cases h) (fun h=>by rw[hN] at h;cases h)
      all_goals have hI:¬(r.inst=true∧st.repos.any (fun o=>o.inst)=true):=fun⟨h1,h2⟩=>by rw[Kq (fun j hj=>by have:=f2_2 j (by omega);simpa [h1] using this)] at h2;cases h2
      all_goals have hE:B9 st r=68:=by unfold B9;rw[if_neg hA,if_neg hI,if_pos (by omega)]
      ·rw[hE];rfl
      ·rw[Iv hE (by decide),Nx hE (by decide)]
     ·try simp only[Ao] at c7
      refine Ah ?_
      refine Ab ?_
      refine Aa [] [0,3,8] ?_
      refine Ax ?_
      refine B4 (fun g y=>∃(i:Nat),i≤r.pkgs.length∧(∀j,j < i→Cm (nth r.pkgs j)=0)∧y=⟨[(0,(.ptr 0 0)),(3,(.fp (.agg [(.str r.name),(.int .i64 r.prio),(.bool r.inst),(Af 12 An r.pkgs)]))),(8,(.int .i64 ((i:Int))))],[(0,(.row [(.int .i64 st.kind),(.own 1),(.own 2)] 87)),(1,(.grow (st.repos.map Bb) 59 4)),(2,(.grow (pl.map atX) 91 2))],4⟩∧g=r.pkgs.length-i) [0,3,8] 4 _ (by omega) ⟨0,(by omega),(by exact fun j hj=>by omega),(by kernel_rfl),rfl⟩ ?_
      rintro g3 y3 ⟨i,f3_1,f3_2,rfl,rfl⟩
      refine Ab ?_
      refine Aa [] [0,3,8,79] ?_
      refine Ba (p:=(i:Int) < (r.pkgs.length:Int)) (by kernel_rfl) (fun c8=>?_) (fun c8=>?_)
      ·refine Ah ?_
       refine Ab ?_
       refine Ax ?_
       refine Ae [] [0,3,8,9] [] (hk 5 X1k (Q6f (nth r.pkgs i) (hp i (by omega)))<|hk0) v0 (cc 3 (p:=(0≤(i:Int)∧i < r.pkgs.length)) (by omega)<|c0) ?_
       refine Aa [] [0,3,8,9,89] ?_
       refine Dh (p:=(Cm (nth r.pkgs i))=0) (by kernel_rfl) (fun c9=>?_) (fun c9=>?_)
       ·refine Aa [] [4] ?_
        refine Ac ?_
        refine D0 (.inl rfl) (al:=[(.int .i64 (Cm (nth r.pkgs i)))]) (by kernel_rfl) ?_ ((by kernel_rfl:Cj 3 _=some [(0,(.row [(.int .i64 st.kind),(.own 1),(.own 2)] 87)),(1,(.grow (st.repos.map Bb) 59 4)),(2,(.grow (pl.map atX) 91 2))]).trans ?_)
        all_goals have hN:=Kq (l:=st.repos) (p:=fun o=>decide (o.name=r.name)) (fun j hj=>by simpa using f1_2 j (by omega))
        all_goals have hA:¬(Bc r.name=false∨st.repos.any (fun o=>decide (o.name=r.name))=true):=fun h=>h.elim (fun h=>by rw[c1] at h;cases h) (fun h=>by rw[hN] at h;cases h)
        all_goals have hI:¬(r.inst=true∧st.repos.any (fun o=>o.inst)=true):=fun⟨h1,h2⟩=>by rw[Kq (fun j hj=>by have:=f2_2 j (by omega);simpa [h1] using this)] at h2;cases h2
        all_goals have hE:B9 st r=Cm (nth r.pkgs i):=by unfold B9;rw[if_neg hA,if_neg hI,if_neg (by omega)];exact Tc (by omega) f3_2 (by assumption)
        ·rw[hE];rfl
        ·rw[Iv hE (by assumption),Nx hE (by assumption)]
       ·refine Ah ?_
        refine Ar ?_
        refine Aw 0 [] [0,3,8] [] hk0 v0 (cc 1 (p:=(-9223372036854775808≤(i:Int)+1∧(i:Int)+1≤9223372036854775807)) (by omega)<|c0) ?_
        refine⟨by kernel_rfl,_,?_,i+1,?_,?_,(by kernel_rfl),rfl⟩
        ·omega
        ·omega
        ·intro j hj
         by_cases h:j=i
         ·subst h;simp_all
         ·exact f3_2 j (by omega)
      ·refine Bq ?_
       refine Ab ?_
       refine Aa [] [0,3,10] ?_
       refine Ax ?_
       refine B4 (fun g y=>∃(i:Nat),i≤r.pkgs.length∧y=⟨[(0,(.ptr 0 0)),(3,(.fp (.agg [(.str r.name),(.int .i64 r.prio),(.bool r.inst),(Af 12 An r.pkgs)]))),(10,(.int .i64 ((i:Int))))],[(0,(.row [(.int .i64 st.kind),(.own 1),(.own 2)] 87)),(1,(.grow (st.repos.map Bb) 59 4)),(2,(.grow ((Ch pl st r i).map atX) 91 2))],4⟩∧g=r.pkgs.length-i) [0,3,10] 4 _ (by omega) ⟨0,(by omega),(Eq.trans (b:=(⟨[(0,(.ptr 0 0)),(3,(.fp (.agg [(.str r.name),(.int .i64 r.prio),(.bool r.inst),(Af 12 An r.pkgs)]))),(10,(.int .i64 0))],[(0,(.row [(.int .i64 st.kind),(.own 1),(.own 2)] 87)),(1,(.grow (st.repos.map Bb) 59 4)),(2,(.grow (pl.map atX) 91 2))],4⟩:St)) (by kernel_rfl) (by rw[show Ch pl st r 0=pl from by simp[Ch]]<;>rfl)),rfl⟩ ?_
       rintro g4 y4 ⟨i,f4_1,rfl,rfl⟩
       have hkl:((Ch pl st r i).map atX).length≤200:=by rw[List.length_map,X4e];omega
       refine Ab ?_
       refine Aa [] [0,3,10,95] ?_
       refine Ba (p:=(i:Int) < (r.pkgs.length:Int)) (by kernel_rfl) (fun c10=>?_) (fun c10=>?_)
       ·refine Ah ?_
        refine Db (fun y=>y=⟨[(0,(.ptr 0 0)),(3,(.fp (.agg [(.str r.name),(.int .i64 r.prio),(.bool r.inst),(Af 12 An r.pkgs)]))),(10,(.int .i64 ((i:Int))))],[(0,(.row [(.int .i64 st.kind),(.own 1),(.own 2)] 87)),(1,(.grow (st.repos.map Bb) 59 4)),(2,(.grow ((Ch pl st r (i+1)).map atX) 91 2))],4⟩) [0,3,10] 4 (by omega) ?_ ?_
        ·refine Ax ?_
         refine Gr [] [0,3,10] [] hk0 v0 (cc 13 (p:=((((Ch pl st r i).map atX).length+1)*16≤140737488355328)) (by omega)<|c0) ?_
         refine⟨by kernel_rfl,(Eq.trans (b:=(⟨[(0,(.ptr 0 0)),(3,(.fp (.agg [(.str r.name),(.int .i64 r.prio),(.bool r.inst),(Af 12 An r.pkgs)]))),(10,(.int .i64 ((i:Int))))],[(0,(.row [(.int .i64 st.kind),(.own 1),(.own 2)] 87)),(1,(.grow (st.repos.map Bb) 59 4)),(2,(.grow (((Ch pl st r i).map atX)++([(.agg [(.int .i64 (((st.repos.map Bb).length:Int))),(.int .i64 ((i:Int)))])]:List AV)) 91 2))],4⟩:St)) (by kernel_rfl) (by rw[show(((Ch pl st r i).map atX)++([(.agg [(.int .i64 (((st.repos.map Bb).length:Int))),(.int .i64 ((i:Int)))])]:List AV))=(Ch pl st r (i+1)).map atX from by rw[X4d,List.map_append,List.length_map];rfl]<;>kernel_rfl))⟩
        ·rintro y2 rfl
         refine Ar ?_
         refine Aw 0 [] [0,3,10] [] hk0 v0 (cc 1 (p:=(-9223372036854775808≤(i:Int)+1∧(i:Int)+1≤9223372036854775807)) (by omega)<|c0) ?_
         refine⟨by kernel_rfl,_,?_,i+1,?_,(by kernel_rfl),rfl⟩
         ·omega
         ·omega
       ·refine Bq ?_
        refine Db (fun y=>y=⟨[],[(0,(.row [(.int .i64 st.kind),(.own 1),(.own 2)] 87)),(1,(.grow ((st.repos++[r]).map Bb) 59 4)),(2,(.grow ((Ch pl st r i).map atX) 91 2))],4⟩) [] 4 (by omega) ?_ ?_
        ·refine Gr [] [] [] hk0 v0 (cc 7 (p:=(((st.repos.map Bb).length+1)*56≤140737488355328)) (by omega)<|c0) ?_
         refine⟨by kernel_rfl,(Eq.trans (b:=(⟨[],[(0,(.row [(.int .i64 st.kind),(.own 1),(.own 2)] 87)),(1,(.grow ((st.repos.map Bb)++([(.agg [(.str r.name),(.int .i64 r.prio),(.bool r.inst),(Af 12 An r.pkgs)])]:List AV)) 59 4)),(2,(.grow ((Ch pl st r i).map atX) 91 2))],4⟩:St)) (by kernel_rfl) (by rw[show((st.repos.map Bb)++([(.agg [(.str r.name),(.int .i64 r.prio),(.bool r.inst),(Af 12 An r.pkgs)])]:List AV))=(st.repos++[r]).map Bb from by rw[List.map_append];rfl]<;>kernel_rfl))⟩
        ·rintro y3 rfl
         refine Aa [] [4] ?_
         refine Ac ?_
         refine D0 (.inl rfl) (al:=[(.int .i64 0)]) (by kernel_rfl) ?_ ((by kernel_rfl:Cj 3 _=some [(0,(.row [(.int .i64 st.kind),(.own 1),(.own 2)] 87)),(1,(.grow ((st.repos++[r]).map Bb) 59 4)),(2,(.grow ((Ch pl st r i).map atX) 91 2))]).trans ?_)
         all_goals have hN:=Kq (l:=st.repos) (p:=fun o=>decide (o.name=r.name)) (fun j hj=>by simpa using f1_2 j (by omega))
         all_goals have hA:¬(Bc r.name=false∨st.repos.any (fun o=>decide (o.name=r.name))=true):=fun h=>h.elim (fun h=>by rw[c1] at h;cases h) (fun h=>by rw[hN] at h;cases h)
         all_goals have hI:¬(r.inst=true∧st.repos.any (fun o=>o.inst)=true):=fun⟨h1,h2⟩=>by rw[Kq (fun j hj=>by have:=f2_2 j (by omega);simpa [h1] using this)] at h2;cases h2
         all_goals have hE:B9 st r=0:=by unfold B9;rw[if_neg hA,if_neg hI,if_neg (by omega)];exact Zy fun j hj=>f3_2 j (by omega)
         ·rw[hE];rfl
         ·unfold B3 En;rw[if_pos hE,if_pos hE,show i=r.pkgs.length from by omega]
end Sv
end
section
open Go Go.RowKit
namespace Sv
attribute [local irreducible] SW SO Bh
set_option maxHeartbeats 1000000
set_option maxRecDepth 100000
theorem X03:Aj Tryz.prog 6:=Ap Tryz.func6 (by kernel_rfl) rfl
theorem X14:Aj Tryz.prog 17:=Ap Tryz.func17 (by kernel_rfl) rfl
theorem X10:Aj Tryz.prog 18:=Ap Tryz.func18 (by kernel_rfl) rfl
def Ak (k:Int):Int:=if k=2 then 2 else 1
theorem Yu (k:Int):Ak k=1∨Ak k=2:=by unfold Ak;split<;>simp
theorem Q82 {k:Int} (h:k=2):Ak k=k:=by unfold Ak;rw[if_pos h,h]
def Hm:List PkgT→Nat
 |[]=>0
 |p::r=>1+p.size+Hm r
theorem Wu:∀l:List PkgT,l.length≤Hm l
 |[]=>Nat.zero_le _
 |p::r=>by have:=Wu r;simp only[Hm,List.length_cons];omega
theorem Ww:∀{l:List PkgT} {i:Nat},i < l.length→(nth l i).size≤Hm l
 |[],_,h=>by simp at h
 |p::r,0,_=>by simp only[Hm];show p.size≤_;omega
 |p::r,i+1,h=>by
  have:=Ww (l:=r) (i:=i) (by simpa using h)
  simp only[Hm];show(nth r i).size≤_;omega
def _root_.Go.Proofs.YtlamaeednbhjdaaGreatDoor.RepoT.size (r:RepoT):Nat:=1+r.name.length+Hm r.pkgs
theorem _root_.Go.Proofs.YtlamaeednbhjdaaGreatDoor.RepoT.sizes (r:RepoT):r.name.length≤r.size∧r.pkgs.length≤r.size:=by
 have:=Wu r.pkgs
 unfold RepoT.size;omega
theorem _root_.Go.Proofs.YtlamaeednbhjdaaGreatDoor.RepoT.size_pkg {r:RepoT} {i:Nat} (h:i < r.pkgs.length):(nth r.pkgs i).size≤r.size:=by
 have:=Ww h
 unfold RepoT.size;omega
def Al (k:Int) (l:List RepoT):PoolT × List (Int × Int):=l.foldl (fun s r=>(B3 s.1 r,En s.2 s.1 r)) (⟨k,[],[]⟩,[])
def Kn (s:PoolT × List (Int × Int)):Prop:=s.1.repos.length≤8∧s.1.all.length≤200∧s.2.length=s.1.all.length
theorem X32 {s:PoolT × List (Int × Int)} {r:RepoT} (h:Kn s):Kn (B3 s.1 r,En s.2 s.1 r):=by
 obtain⟨h1,h2,h3⟩:=h
 by_cases he:B9 s.1 r=0
 ·have hm : ¬ (8 ≤ s.1.repos.length ∨ 200 < s.1.all.length + r.pkgs.length) := by
   intro q
   unfold B9 at he
   rw[if_pos q] at he
   split at he<;>first|omega|(split at he<;>omega)
  unfold Kn B3 En
  simp only[if_pos he,List.length_append,List.length_singleton,Aq,Ch,List.length_map,List.length_take,List.length_range]
  omega
 ·unfold Kn B3 En
  rw[if_neg he,if_neg he];exact⟨h1,h2,h3⟩
theorem Q1o (k:Int) (l:List RepoT):Kn (Al k l):=by
 have key:∀(l:List RepoT) (s:PoolT × List (Int × Int)),Kn s→Kn (l.foldl (fun s r=>(B3 s.1 r,En s.2 s.1 r)) s):=by
  intro l
  induction l with
  |nil=>exact fun s h=>h
  |cons r l ih=>exact fun s h=>ih _ (X32 h)
 exact key l _ ⟨by simp,by simp,by simp⟩
theorem X3x {k:Int} {l:List RepoT} {i:Nat} (h:i < l.length):Al k (l.take (i+1))=(B3 (Al k (l.take i)).1 (nth l i),En (Al k (l.take i)).2 (Al k (l.take i)).1 (nth l i)):=by
 unfold Al
 rw[List.take_add_one,List.getElem?_eq_getElem h,List.foldl_append]
 simp[nth,h]
noncomputable def B8 (st:PoolT):AV:=.agg [.int .i64 st.kind,Af 4 A4 st.repos,Af 13 A7 st.all,.smap (.slice none 0 0) (fun s => .row 1 (A3 st.all s).length (fun i=>(A3 st.all s).getD i Bl))]
noncomputable def Q6u (st:PoolT) (pl:List (Int × Int)):AV:=.agg [.int .i64 st.kind,Af 4 Bb st.repos,Af 2 atX pl]
theorem X67 (kind : Int) (l : List RepoT) (hll : l.length ≤ 4611686018427387904) (hl : ∀ i, i < l.length → (nth l i).size ≤ 4194304) :
  FnV Tryz.prog 6 [(.int .i64 kind),(Af 4 Bb l)] (.tup [.fp (B8 (Al (Ak kind) l).1),.fp (Q6u (Al (Ak kind) l).1 (Al (Ak kind) l).2)]):=by
 refine A1 [.tmp 4,.tmp 5] Tryz.func6 rfl Tryz.ntmps6 rfl rfl (fun B F hF=>?_)
 refine Aa [] [0,1] ?_
 refine Db (fun y=>y=⟨[(0,(.int .i64 ((Ak kind)))),(1,(Af 4 Bb l))],[],0⟩) [0,1] 0 (by omega) ?_ ?_
 ·refine Aa [] [0,1,12] ?_
  refine Dh (p:=kind=2) (by kernel_rfl) (fun c1=>?_) (fun c1=>?_)
  ·refine Ar ?_
   refine Ez [] [0,1] ?_
   refine⟨by kernel_rfl,(Eq.trans (b:=(⟨[(0,(.int .i64 1)),(1,(Af 4 Bb l))],[],0⟩:St)) (by kernel_rfl) (by rw[show Ak kind=1 from if_neg (by assumption)]<;>rfl))⟩
  ·refine Ah ?_
   refine⟨by kernel_rfl,(Eq.trans (b:=(⟨[(0,(.int .i64 kind)),(1,(Af 4 Bb l))],[],0⟩:St)) (by kernel_rfl) (by rw[show Ak kind=kind from Q82 (by omega)]<;>rfl))⟩
 ·rintro y1 rfl
  refine Ab ?_
  refine Ar ?_
  refine Bm 1 0 [] [0,1,14] [] hk0 v0 c0 ?_
  refine Q3 [.tmp 2,.tmp 3] (al:=[(.int .i64 ((Ak kind)))]) (s0:=[(0,(.int .i64 ((Ak kind)))),(1,(Af 4 Bb l)),(14,(.int .i64 ((Ak kind))))]) (by kernel_rfl) (by exact X14) (by kernel_rfl) Tryz.func17 rfl Tryz.ntmps17 rfl (by kernel_rfl) (by kernel_rfl) (fun F1 hF1 hle1=>?_)
  refine Aa [] [0] ?_
  refine Ab ?_
  obtain⟨b1_1,hb1_1⟩:∃b,b=(!decide ((Ak kind)=1)):=⟨_,rfl⟩
  refine Ae (CS:=[(4,(b1_1=true→b1_1=true)),(5,(b1_1=true→b1_1=true))]) [7,8] [0,9] [] hk0 (vk 3 6 (a:=.bool (!decide ((Ak kind)=1))) (b:=.bool b1_1) (Imp.of_eq (by rw[hb1_1]))<|v0) (by refine cc _ ?_<|cc _ ?_ c0<;>simp) ?_
  refine Be (q:=b1_1&&(!decide ((Ak kind)=2))) (by kernel_rfl) (fun c2=>?_) (fun c2=>?_)
  ·subst hb1_1
   try simp only[Ao] at c2
   exact absurd (Yu kind) fun h=>h.elim c2.1 c2.2
  ·subst hb1_1
   try simp only[Ao] at c2
   refine Ah ?_
   refine Aa [] [2,3] ?_
   refine Ac ?_
   refine M7 (.inl rfl) (al:=[(.ptr 1 0),(.int .i64 0)]) (s':=[(0,(.int .i64 ((Ak kind)))),(1,(Af 4 Bb l)),(14,(.int .i64 ((Ak kind)))),(15,(.tup [(.ptr 1 0),(.int .i64 0)]))]) (by kernel_rfl) (by kernel_rfl) ?_
   refine Aw 2 [] [0,1,6,7] [] hk0 v0 c0 ?_
   refine Ab ?_
   refine Ar ?_
   refine Bm 1 0 [] [1,6,7,19] [] hk0 v0 c0 ?_
   refine Q3 [.tmp 2,.tmp 3] (al:=[(.int .i64 ((Ak kind)))]) (s0:=[(1,(Af 4 Bb l)),(6,(.ptr 1 0)),(7,(.int .i64 0)),(19,(.int .i64 ((Ak kind))))]) (by kernel_rfl) (by exact X10) (by kernel_rfl) Tryz.func18 rfl Tryz.ntmps18 rfl (by kernel_rfl) (by kernel_rfl) (fun F2 hF2 hle2=>?_)
   refine Aa [] [0] ?_
   refine Ab ?_
   obtain⟨b2_1,hb2_1⟩:∃b,b=(!decide ((Ak kind)=1)):=⟨_,rfl⟩
   refine Ae (CS:=[(4,(b2_1=true→b2_1=true)),(5,(b2_1=true→b2_1=true))]) [7,8] [0,9] [] hk0 (vk 3 6 (a:=.bool (!decide ((Ak kind)=1))) (b:=.bool b2_1) (Imp.of_eq (by rw[hb2_1]))<|v0) (by refine cc _ ?_<|cc _ ?_ c0<;>simp) ?_
   refine Be (q:=b2_1&&(!decide ((Ak kind)=2))) (by kernel_rfl) (fun c3=>?_) (fun c3=>?_)
   ·subst hb2_1
    try simp only[Ao] at c3
    exact absurd (Yu kind) fun h=>h.elim c3.1 c3.2
   ·subst hb2_1
    try simp only[Ao] at c3
    refine Ah ?_
    refine Aa [] [2,3] ?_
    refine Ac ?_
    refine M7 (.inl rfl) (al:=[(.ptr 2 0),(.int .i64 0)]) (s':=[(1,(Af 4 Bb l)),(6,(.ptr 1 0)),(7,(.int .i64 0)),(19,(.int .i64 ((Ak kind)))),(20,(.tup [(.ptr 2 0),(.int .i64 0)]))]) (by kernel_rfl) (by kernel_rfl) ?_
    refine Aw 2 [] [1,6,7,8] [] hk0 v0 c0 ?_
    refine Ab ?_
    refine Aa [] [1,6,8,28] ?_
    refine Dp (by kernel_rfl) ?_
    refine Ah ?_
    refine Ab ?_
    refine Aa [] [1,6,8,10] ?_
    refine Ax ?_
    refine N6 59 4 1 1 (y:=⟨[(1,(Af 4 Bb l)),(6,(.ptr 1 0)),(8,(.ptr 2 0)),(10,(.int .i64 0))],[(0,(.map [] 0)),(1,(.row [(.int .i64 ((Ak kind))),(.own 3),.nils,(.map 0)] 75)),(2,(.row [(.int .i64 ((Ak kind))),.nils,.nils] 87)),(3,(.grow [] 59 4))],4⟩) (by kernel_rfl) (by kernel_rfl) ?_
    refine N6 78 13 1 2 (y:=⟨[(1,(Af 4 Bb l)),(6,(.ptr 1 0)),(8,(.ptr 2 0)),(10,(.int .i64 0))],[(0,(.map [] 0)),(1,(.row [(.int .i64 ((Ak kind))),(.own 3),(.own 4),(.map 0)] 75)),(2,(.row [(.int .i64 ((Ak kind))),.nils,.nils] 87)),(3,(.grow [] 59 4)),(4,(.grow [] 78 13))],5⟩) (by kernel_rfl) (by kernel_rfl) ?_
    refine N6 59 4 2 1 (y:=⟨[(1,(Af 4 Bb l)),(6,(.ptr 1 0)),(8,(.ptr 2 0)),(10,(.int .i64 0))],[(0,(.map [] 0)),(1,(.row [(.int .i64 ((Ak kind))),(.own 3),(.own 4),(.map 0)] 75)),(2,(.row [(.int .i64 ((Ak kind))),(.own 5),.nils] 87)),(3,(.grow [] 59 4)),(4,(.grow [] 78 13)),(5,(.grow [] 59 4))],6⟩) (by kernel_rfl) (by kernel_rfl) ?_
    refine N6 91 2 2 2 (y:=⟨[(1,(Af 4 Bb l)),(6,(.ptr 1 0)),(8,(.ptr 2 0)),(10,(.int .i64 0))],[(0,(.map [] 0)),(1,(.row [(.int .i64 ((Ak kind))),(.own 3),(.own 4),(.map 0)] 75)),(2,(.row [(.int .i64 ((Ak kind))),(.own 5),(.own 6)] 87)),(3,(.grow [] 59 4)),(4,(.grow [] 78 13)),(5,(.grow [] 59 4)),(6,(.grow [] 91 2))],7⟩) (by kernel_rfl) (by kernel_rfl) ?_
    refine Q2y 0 3 1 (y:=⟨[(1,(Af 4 Bb l)),(6,(.ptr 1 0)),(8,(.ptr 2 0)),(10,(.int .i64 0))],[(0,(.mm (fun _=>[]) none 3 1)),(1,(.row [(.int .i64 ((Ak kind))),(.own 3),(.own 4),(.map 0)] 75)),(2,(.row [(.int .i64 ((Ak kind))),(.own 5),(.own 6)] 87)),(3,(.grow [] 59 4)),(4,(.grow [] 78 13)),(5,(.grow [] 59 4)),(6,(.grow [] 91 2))],7⟩) (by kernel_rfl) ?_
    refine B4 (fun g y=>∃(i:Nat),i≤l.length∧y=⟨[(1,(Af 4 Bb l)),(6,(.ptr 1 0)),(8,(.ptr 2 0)),(10,(.int .i64 ((i:Int))))],[(0,(.mm (A3 ((Al (Ak kind) (l.take i)).1).all) none 3 1)),(1,(.row [(.int .i64 ((Al (Ak kind) (l.take i)).1.kind)),(.own 3),(.own 4),(.map 0)] 75)),(2,(.row [(.int .i64 ((Al (Ak kind) (l.take i)).1.kind)),(.own 5),(.own 6)] 87)),(3,(.grow (((Al (Ak kind) (l.take i)).1).repos.map A4) 59 4)),(4,(.grow (((Al (Ak kind) (l.take i)).1).all.map A7) 78 13)),(5,(.grow (((Al (Ak kind) (l.take i)).1).repos.map Bb) 59 4)),(6,(.grow (((Al (Ak kind) (l.take i)).2).map atX) 91 2))],7⟩∧g=l.length-i) [1,6,8,10] 7 _ (by omega) ⟨0,(by omega),(by kernel_rfl),rfl⟩ ?_
    rintro g1 y1 ⟨i,f1_1,rfl,rfl⟩
    have hb:=Q1o (Ak kind) (l.take i)
    refine Ab ?_
    refine Aa [] [1,6,8,10,32] ?_
    refine Ba (p:=(i:Int) < (l.length:Int)) (by kernel_rfl) (fun c4=>?_) (fun c4=>?_)
    ·have hz:=RepoT.sizes (nth l i)
     have hw:=hl i (by omega)
     refine Ah ?_
     refine Ab ?_
     refine Ax ?_
     refine Ab ?_
     refine Iz (by kernel_rfl) (fun F1 hF1=>?_)
     refine Ck (fuel:=3) [] [0,1,2,3,4,6,7,8,9,10] [1,6,8,10,35,39,41,45] (hold (p:=(0≤(i:Int)∧i < l.length)∧(0≤(i:Int)∧i < l.length)) (by omega)) ?_
     refine Ep (fuel:=2) 5 (by kernel_rfl) ?_
     refine Cf (fuel:=2) 5 rfl ?_
     refine Dy [1,3,4,0] (al:=[(.ptr 1 0),(.agg [(.str ((nth l i).name)),(.int .i64 ((nth l i).prio)),(.bool ((nth l i).inst)),(Af 12 An ((nth l i).pkgs))])]) (al':=[(.ptr 0 0),(.agg [(.str ((nth l i).name)),(.int .i64 ((nth l i).prio)),(.bool ((nth l i).inst)),(Af 12 An ((nth l i).pkgs))])]) (r:=(.int .i64 (B9 (Al (Ak kind) (l.take i)).1 (nth l i)))) (r':=(.int .i64 (B9 (Al (Ak kind) (l.take i)).1 (nth l i)))) (s':=[(1,(Af 4 Bb l)),(6,(.ptr 1 0)),(8,(.ptr 2 0)),(10,(.int .i64 ((i:Int)))),(35,(.ptr 1 0)),(39,(.agg [(.str ((nth l i).name)),(.int .i64 ((nth l i).prio)),(.bool ((nth l i).inst)),(Af 12 An ((nth l i).pkgs))])),(41,(.ptr 2 0)),(45,(.agg [(.str ((nth l i).name)),(.int .i64 ((nth l i).prio)),(.bool ((nth l i).inst)),(Af 12 An ((nth l i).pkgs))])),(40,(.int .i64 (B9 (Al (Ak kind) (l.take i)).1 (nth l i))))]) (H:=[(0,(.row [(.int .i64 ((Al (Ak kind) (l.take i)).1.kind)),(.own 1),(.own 2),(.map 3)] 75)),(1,(.grow (((Al (Ak kind) (l.take i)).1).repos.map A4) 59 4)),(2,(.grow (((Al (Ak kind) (l.take i)).1).all.map A7) 78 13)),(3,(.mm (A3 ((Al (Ak kind) (l.take i)).1).all) none 3 1))]) (H':=[(0,(.row [(.int .i64 ((B3 (Al (Ak kind) (l.take i)).1 (nth l i)).kind)),(.own 1),(.own 2),(.map 3)] 75)),(1,(.grow ((B3 (Al (Ak kind) (l.take i)).1 (nth l i)).repos.map A4) 59 4)),(2,(.grow ((B3 (Al (Ak kind) (l.take i)).1 (nth l i)).all.map A7) 78 13)),(3,(.mm (A3 (B3 (Al (Ak kind) (l.take i)).1 (nth l i)).all) none 3 1))]) (h2:=[(0,(.mm (A3 (B3 (Al (Ak kind) (l.take i)).1 (nth l i)).all) none 3 1)),(1,(.row [(.int .i64 ((B3 (Al (Ak kind) (l.take i)).1 (nth l i)).kind)),(.own 3),(.own 4),(.map 0)] 75)),(2,(.row [(.int .i64 ((Al (Ak kind) (l.take i)).1.kind)),(.own 5),(.own 6)] 87)),(3,(.grow ((B3 (Al (Ak kind) (l.take i)).1 (nth l i)).repos.map A4) 59 4)),(4,(.grow ((B3 (Al (Ak kind) (l.take i)).1 (nth l i)).all.map A7) 78 13)),(5,(.grow (((Al (Ak kind) (l.take i)).1).repos.map Bb) 59 4)),(6,(.grow (((Al (Ak kind) (l.take i)).2).map atX) 91 2))]) (by kernel_rfl) (by exact X1w) (by kernel_rfl) (by kernel_rfl) (by kernel_rfl) (by kernel_rfl) (by kernel_rfl) (X7t (Al (Ak kind) (l.take i)).1 (nth l i) hb.1 hb.2.1 (by omega) (by omega) (fun j hj=>Nat.le_trans (RepoT.size_pkg hj) (hl i (by omega)))) (by kernel_rfl) (by kernel_rfl) (by kernel_rfl) ?_
     refine Bo ⟨rfl,?_⟩
     refine Ep (fuel:=1) 11 (by kernel_rfl) ?_
     refine Cf (fuel:=1) 11 rfl ?_
     refine Dy [2,5,6] (al:=[(.ptr 2 0),(.agg [(.str ((nth l i).name)),(.int .i64 ((nth l i).prio)),(.bool ((nth l i).inst)),(Af 12 An ((nth l i).pkgs))])]) (al':=[(.ptr 0 0),(.agg [(.str ((nth l i).name)),(.int .i64 ((nth l i).prio)),(.bool ((nth l i).inst)),(Af 12 An ((nth l i).pkgs))])]) (r:=(.int .i64 (B9 (Al (Ak kind) (l.take i)).1 (nth l i)))) (r':=(.int .i64 (B9 (Al (Ak kind) (l.take i)).1 (nth l i)))) (s':=[(1,(Af 4 Bb l)),(6,(.ptr 1 0)),(8,(.ptr 2 0)),(10,(.int .i64 ((i:Int)))),(35,(.ptr 1 0)),(39,(.agg [(.str ((nth l i).name)),(.int .i64 ((nth l i).prio)),(.bool ((nth l i).inst)),(Af 12 An ((nth l i).pkgs))])),(41,(.ptr 2 0)),(45,(.agg [(.str ((nth l i).name)),(.int .i64 ((nth l i).prio)),(.bool ((nth l i).inst)),(Af 12 An ((nth l i).pkgs))])),(40,(.int .i64 (B9 (Al (Ak kind) (l.take i)).1 (nth l i)))),(46,(.int .i64 (B9 (Al (Ak kind) (l.take i)).1 (nth l i))))]) (H:=[(0,(.row [(.int .i64 ((Al (Ak kind) (l.take i)).1.kind)),(.own 1),(.own 2)] 87)),(1,(.grow (((Al (Ak kind) (l.take i)).1).repos.map Bb) 59 4)),(2,(.grow (((Al (Ak kind) (l.take i)).2).map atX) 91 2))]) (H':=[(0,(.row [(.int .i64 ((B3 (Al (Ak kind) (l.take i)).1 (nth l i)).kind)),(.own 1),(.own 2)] 87)),(1,(.grow ((B3 (Al (Ak kind) (l.take i)).1 (nth l i)).repos.map Bb) 59 4)),(2,(.grow ((En (Al (Ak kind) (l.take i)).2 (Al (Ak kind) (l.take i)).1 (nth l i)).map atX) 91 2))]) (h2:=[(0,(.mm (A3 (B3 (Al (Ak kind) (l.take i)).1 (nth l i)).all) none 3 1)),(1,(.row [(.int .i64 ((B3 (Al (Ak kind) (l.take i)).1 (nth l i)).kind)),(.own 3),(.own 4),(.map 0)] 75)),(2,(.row [(.int .i64 ((B3 (Al (Ak kind) (l.take i)).1 (nth l i)).kind)),(.own 5),(.own 6)] 87)),(3,(.grow ((B3 (Al (Ak kind) (l.take i)).1 (nth l i)).repos.map A4) 59 4)),(4,(.grow ((B3 (Al (Ak kind) (l.take i)).1 (nth l i)).all.map A7) 78 13)),(5,(.grow ((B3 (Al (Ak kind) (l.take i)).1 (nth l i)).repos.map Bb) 59 4)),(6,(.grow ((En (Al (Ak kind) (l.take i)).2 (Al (Ak kind) (l.take i)).1 (nth l i)).map atX) 91 2))]) (by kernel_rfl) (by exact X1s) (by kernel_rfl) (by kernel_rfl) (by kernel_rfl) (by kernel_rfl) (by kernel_rfl) (Q6i (Al (Ak kind) (l.take i)).1 (Al (Ak kind) (l.take i)).2 (nth l i) hb.1 hb.2.1 hb.2.2 (by omega) (by omega) (fun j hj=>Nat.le_trans (RepoT.size_pkg hj) (hl i (by omega)))) (by kernel_rfl) (by kernel_rfl) (by kernel_rfl) ?_
     refine Bo ⟨rfl,?_⟩
     refine Ck (fuel:=0) [] [12] [1,6,8,10,47] Av ?_
     refine As [1,6,8,10,47] ?_
     refine Hd (by kernel_rfl) ?_
     refine Dh (p:=(B9 (Al (Ak kind) (l.take i)).1 (nth l i))=(B9 (Al (Ak kind) (l.take i)).1 (nth l i))) (by kernel_rfl) (fun c5=>?_) (fun c5=>?_)
     ·exact absurd rfl c5
     ·refine Ah ?_
      refine Ar ?_
      refine Aw 0 [] [1,6,8,10] [] hk0 v0 (cc 1 (p:=(-9223372036854775808≤(i:Int)+1∧(i:Int)+1≤9223372036854775807)) (by omega)<|c0) ?_
      refine⟨by kernel_rfl,_,?_,i+1,?_,(Eq.trans (b:=(⟨[(1,(Af 4 Bb l)),(6,(.ptr 1 0)),(8,(.ptr 2 0)),(10,(.int .i64 ((i:Int)+1)))],[(0,(.mm (A3 (B3 (Al (Ak kind) (l.take i)).1 (nth l i)).all) none 3 1)),(1,(.row [(.int .i64 ((B3 (Al (Ak kind) (l.take i)).1 (nth l i)).kind)),(.own 3),(.own 4),(.map 0)] 75)),(2,(.row [(.int .i64 ((B3 (Al (Ak kind) (l.take i)).1 (nth l i)).kind)),(.own 5),(.own 6)] 87)),(3,(.grow ((B3 (Al (Ak kind) (l.take i)).1 (nth l i)).repos.map A4) 59 4)),(4,(.grow ((B3 (Al (Ak kind) (l.take i)).1 (nth l i)).all.map A7) 78 13)),(5,(.grow ((B3 (Al (Ak kind) (l.take i)).1 (nth l i)).repos.map Bb) 59 4)),(6,(.grow ((En (Al (Ak kind) (l.take i)).2 (Al (Ak kind) (l.take i)).1 (nth l i)).map atX) 91 2))],7⟩:St)) (by kernel_rfl) (by rw[X3x (by omega)]<;>kernel_rfl)),rfl⟩
      ·omega
      ·omega
    ·refine Bq ?_
     refine Ab ?_
     refine Ar ?_
     refine H1 1 1 (y:=⟨[(1,(Af 4 Bb l)),(6,(.ptr 1 0)),(8,(.ptr 2 0)),(10,(.int .i64 ((i:Int)))),(32,(.bool (decide ((i:Int) < (l.length:Int)))))],[(0,(.mm (A3 ((Al (Ak kind) (l.take i)).1).all) none 3 1)),(1,(.row [(.int .i64 ((Al (Ak kind) (l.take i)).1.kind)),(.row 4 (((Al (Ak kind) (l.take i)).1).repos.map A4).length (fun ix=>(((Al (Ak kind) (l.take i)).1).repos.map A4).getD ix Bl)),(.own 4),(.map 0)] 75)),(2,(.row [(.int .i64 ((Al (Ak kind) (l.take i)).1.kind)),(.own 5),(.own 6)] 87)),(4,(.grow (((Al (Ak kind) (l.take i)).1).all.map A7) 78 13)),(5,(.grow (((Al (Ak kind) (l.take i)).1).repos.map Bb) 59 4)),(6,(.grow (((Al (Ak kind) (l.take i)).2).map atX) 91 2))],7⟩) (by kernel_rfl) ?_
     refine H1 1 2 (y:=⟨[(1,(Af 4 Bb l)),(6,(.ptr 1 0)),(8,(.ptr 2 0)),(10,(.int .i64 ((i:Int)))),(32,(.bool (decide ((i:Int) < (l.length:Int)))))],[(0,(.mm (A3 ((Al (Ak kind) (l.take i)).1).all) none 3 1)),(1,(.row [(.int .i64 ((Al (Ak kind) (l.take i)).1.kind)),(.row 4 (((Al (Ak kind) (l.take i)).1).repos.map A4).length (fun ix=>(((Al (Ak kind) (l.take i)).1).repos.map A4).getD ix Bl)),(.row 13 (((Al (Ak kind) (l.take i)).1).all.map A7).length (fun ix=>(((Al (Ak kind) (l.take i)).1).all.map A7).getD ix Bl)),(.map 0)] 75)),(2,(.row [(.int .i64 ((Al (Ak kind) (l.take i)).1.kind)),(.own 5),(.own 6)] 87)),(5,(.grow (((Al (Ak kind) (l.take i)).1).repos.map Bb) 59 4)),(6,(.grow (((Al (Ak kind) (l.take i)).2).map atX) 91 2))],7⟩) (by kernel_rfl) ?_
     refine H1 1 3 (y:=⟨[(1,(Af 4 Bb l)),(6,(.ptr 1 0)),(8,(.ptr 2 0)),(10,(.int .i64 ((i:Int)))),(32,(.bool (decide ((i:Int) < (l.length:Int)))))],[(1,(.row [(.int .i64 ((Al (Ak kind) (l.take i)).1.kind)),(.row 4 (((Al (Ak kind) (l.take i)).1).repos.map A4).length (fun ix=>(((Al (Ak kind) (l.take i)).1).repos.map A4).getD ix Bl)),(.row 13 (((Al (Ak kind) (l.take i)).1).all.map A7).length (fun ix=>(((Al (Ak kind) (l.take i)).1).all.map A7).getD ix Bl)),(.smap (.slice none 0 0) (fun kq => .row 1 ((A3 ((Al (Ak kind) (l.take i)).1).all) kq).length (fun ix=>((A3 ((Al (Ak kind) (l.take i)).1).all) kq).getD ix Bl)))] 75)),(2,(.row [(.int .i64 ((Al (Ak kind) (l.take i)).1.kind)),(.own 5),(.own 6)] 87)),(5,(.grow (((Al (Ak kind) (l.take i)).1).repos.map Bb) 59 4)),(6,(.grow (((Al (Ak kind) (l.take i)).2).map atX) 91 2))],7⟩) (by kernel_rfl) ?_
     refine H1 2 1 (y:=⟨[(1,(Af 4 Bb l)),(6,(.ptr 1 0)),(8,(.ptr 2 0)),(10,(.int .i64 ((i:Int)))),(32,(.bool (decide ((i:Int) < (l.length:Int)))))],[(1,(.row [(.int .i64 ((Al (Ak kind) (l.take i)).1.kind)),(.row 4 (((Al (Ak kind) (l.take i)).1).repos.map A4).length (fun ix=>(((Al (Ak kind) (l.take i)).1).repos.map A4).getD ix Bl)),(.row 13 (((Al (Ak kind) (l.take i)).1).all.map A7).length (fun ix=>(((Al (Ak kind) (l.take i)).1).all.map A7).getD ix Bl)),(.smap (.slice none 0 0) (fun kq => .row 1 ((A3 ((Al (Ak kind) (l.take i)).1).all) kq).length (fun ix=>((A3 ((Al (Ak kind) (l.take i)).1).all) kq).getD ix Bl)))] 75)),(2,(.row [(.int .i64 ((Al (Ak kind) (l.take i)).1.kind)),(.row 4 (((Al (Ak kind) (l.take i)).1).repos.map Bb).length (fun ix=>(((Al (Ak kind) (l.take i)).1).repos.map Bb).getD ix Bl)),(.own 6)] 87)),(6,(.grow (((Al (Ak kind) (l.take i)).2).map atX) 91 2))],7⟩) (by kernel_rfl) ?_
     refine H1 2 2 (y:=⟨[(1,(Af 4 Bb l)),(6,(.ptr 1 0)),(8,(.ptr 2 0)),(10,(.int .i64 ((i:Int)))),(32,(.bool (decide ((i:Int) < (l.length:Int)))))],[(1,(.row [(.int .i64 ((Al (Ak kind) (l.take i)).1.kind)),(.row 4 (((Al (Ak kind) (l.take i)).1).repos.map A4).length (fun ix=>(((Al (Ak kind) (l.take i)).1).repos.map A4).getD ix Bl)),(.row 13 (((Al (Ak kind) (l.take i)).1).all.map A7).length (fun ix=>(((Al (Ak kind) (l.take i)).1).all.map A7).getD ix Bl)),(.smap (.slice none 0 0) (fun kq => .row 1 ((A3 ((Al (Ak kind) (l.take i)).1).all) kq).length (fun ix=>((A3 ((Al (Ak kind) (l.take i)).1).all) kq).getD ix Bl)))] 75)),(2,(.row [(.int .i64 ((Al (Ak kind) (l.take i)).1.kind)),(.row 4 (((Al (Ak kind) (l.take i)).1).repos.map Bb).length (fun ix=>(((Al (Ak kind) (l.take i)).1).repos.map Bb).getD ix Bl)),(.row 2 (((Al (Ak kind) (l.take i)).2).map atX).length (fun ix=>(((Al (Ak kind) (l.take i)).2).map atX).getD ix Bl))] 87))],7⟩) (by kernel_rfl) ?_
     refine Ez [] [4,5] ?_
     refine Ac ?_
     refine RK wR [(.fp (.agg [(.int .i64 ((Al (Ak kind) (l.take i)).1.kind)),(.row 4 (((Al (Ak kind) (l.take i)).1).repos.map A4).length (fun ix=>(((Al (Ak kind) (l.take i)).1).repos.map A4).getD ix Bl)),(.row 13 (((Al (Ak kind) (l.take i)).1).all.map A7).length (fun ix=>(((Al (Ak kind) (l.take i)).1).all.map A7).getD ix Bl)),(.smap (.slice none 0 0) (fun kq => .row 1 ((A3 ((Al (Ak kind) (l.take i)).1).all) kq).length (fun ix=>((A3 ((Al (Ak kind) (l.take i)).1).all) kq).getD ix Bl)))])),(.fp (.agg [(.int .i64 ((Al (Ak kind) (l.take i)).1.kind)),(.row 4 (((Al (Ak kind) (l.take i)).1).repos.map Bb).length (fun ix=>(((Al (Ak kind) (l.take i)).1).repos.map Bb).getD ix Bl)),(.row 2 (((Al (Ak kind) (l.take i)).2).map atX).length (fun ix=>(((Al (Ak kind) (l.take i)).2).map atX).getD ix Bl))]))] ?_
     rw[show i=l.length from by omega,List.take_length]
     simp only[Ai]
     exact(Imp.tups (ImpL.cons (Imp.fp (Imp.aggs (ImpL.cons Imp.refl (ImpL.cons (Imp.list (f:=A4) (List.length_map _)) (ImpL.cons (Imp.list (f:=A7) (List.length_map _)) (ImpL.cons Imp.refl ImpL.nil)))))) (ImpL.cons (Imp.fp (Imp.aggs (ImpL.cons Imp.refl (ImpL.cons (Imp.list (f:=Bb) (List.length_map _)) (ImpL.cons (Imp.list (f:=atX) (List.length_map _)) ImpL.nil))))) ImpL.nil))).same
end Sv
end
section
open Go Go.RowKit
namespace Sv
attribute [local irreducible] SW SO Bh
set_option maxHeartbeats 400000
set_option maxRecDepth 100000
theorem X0l:Aj Tryz.prog 99:=Ap Tryz.func99 (by kernel_rfl) rfl
theorem Qg:Aj Tryz.prog 11:=Ap Tryz.func11 (by kernel_rfl) rfl
theorem Ts:Aj Tryz.prog 12:=Ap Tryz.func12 (by kernel_rfl) rfl
theorem X7c (st : PoolT) :
  FnV Tryz.prog 99 [(.fp (B8 st))] (.int .i64 st.kind):=by
 refine A1 [.tmp 2] Tryz.func99 rfl Tryz.ntmps99 rfl rfl (fun B F hF=>?_)
 refine Aa [] [0] ?_
 refine Ab ?_
 refine Aa [] [0,4] ?_
 refine Dp (by kernel_rfl) ?_
 refine Ah ?_
 refine Aa [] [2] ?_
 refine Ac ?_
 refine RK wR [(.int .i64 st.kind)] ?_
 exact Same.of_eq (by first|rfl|(simp only[Ai];simp_all))
theorem Q9 (st : PoolT) :
  FnV Tryz.prog 11 [(.fp (B8 st))] (.int .i64 ((st.all.length:Int))):=by
 refine A1 [.tmp 2] Tryz.func11 rfl Tryz.ntmps11 rfl rfl (fun B F hF=>?_)
 refine Aa [] [0] ?_
 refine Ab ?_
 refine Aa [] [0,4] ?_
 refine Dp (by kernel_rfl) ?_
 refine Ah ?_
 refine Aa [] [2] ?_
 refine Ac ?_
 refine RK wR [(.int .i64 ((st.all.length:Int)))] ?_
 exact Same.of_eq (by first|rfl|(simp only[Ai];simp_all))
theorem Uv (st : PoolT) (i : Nat) (hi : i < st.all.length) (hs : (nth st.all i).1.size ≤ 4194304) :
  FnV Tryz.prog 12 [(.fp (B8 st)),(.int .i64 ((i:Int)))] (.tup [An (nth st.all i).1,.int .i64 (nth st.all i).2,.int .i64 0]):=by
 refine A1 [.cell 4 42,.tmp 5,.tmp 6] Tryz.func12 rfl Tryz.ntmps12 rfl rfl (fun B F hF=>?_)
 refine Aa [] [0,1,4] ?_
 refine Ab ?_
 refine Ax ?_
 refine Aa [] [0,1,4,7] ?_
 refine Dp (by kernel_rfl) ?_
 obtain⟨b1,hb1⟩:∃b,b=(decide ((i:Int) < 0)):=⟨_,rfl⟩
 obtain⟨b2,hb2⟩:∃b,b=(b1||(decide ((st.all.length:Int)≤(i:Int)))):=⟨_,rfl⟩
 refine Ae (CS:=[(5,((!b1)=true→(!b1)=true)),(6,((!b1)=true→(!b1)=true)),(7,((!b1)=true→(!b1)=true)),(8,((!b1)=true→(!b1)=true)),(9,((!b1)=true→(!b1)=true∧(!b1)=true)),(10,(b1=false→(!b1)=true))]) [15,16,17,18,19,20,21] [0,1,4,11] [] hk0 (vk 3 14 (a:=.bool (decide ((i:Int) < 0))) (b:=.bool b1) (Imp.of_eq (by rw[hb1]))<|vk 11 22 (a:=.bool (b1||(decide ((st.all.length:Int)≤(i:Int))))) (b:=.bool b2) (Imp.of_eq (by rw[hb2]))<|v0) (by refine cc _ ?_<|cc _ ?_<|cc _ ?_<|cc _ ?_<|cc _ ?_<|cc _ ?_ c0<;>simp) ?_
 refine Be (q:=b2) (by kernel_rfl) (fun c1=>?_) (fun c1=>?_)
 ·subst hb2 hb1
  try simp only[Ao] at c1
  exfalso;simp at c1;omega
 ·subst hb2 hb1
  try simp only[Ao] at c1
  refine Ah ?_
  refine Cv (CS:=[(5,(0≤(i:Int)∧i < st.all.length)),(14,(0≤(i:Int)∧i < st.all.length))]) [] [4,5,6] [] (hk 8 Q0i (Q1d (nth st.all i).1 (by have:=(nth st.all i).1.sizes;omega) (by have:=(nth st.all i).1.sizes;have:=Kk (nth st.all i).1.files;omega))<|hk0) v0 (by refine cc _ ?_<|cc _ ?_ c0<;>omega) ?_
  refine Ac ?_
  refine RK wR [(An ((nth st.all i).1)),(.int .i64 ((nth st.all i).2)),(.int .i64 0)] ?_
  exact Same.of_eq (by first|rfl|(simp only[Ai];simp_all))
end Sv
end
section
open Go Go.RowKit
namespace Sv
attribute [local irreducible] SW SO Bh
set_option maxHeartbeats 1000000
set_option maxRecDepth 100000
theorem X1d:Aj Tryz.prog 49:=Ap Tryz.func49 (by kernel_rfl) rfl
theorem Tt:Aj Tryz.prog 100:=Ap Tryz.func100 (by kernel_rfl) rfl
structure OfferT where
 id:Int
 own:Bool
 op:Int
 evr:List UInt8
 deriving Inhabited
noncomputable def Id (o:OfferT):AV:=.agg [.int .i64 o.id,.bool o.own,.int .i64 o.op,.str o.evr]
def B6 (ps:List (List UInt8 × OfferT)) (s:List UInt8):List OfferT:=(ps.filter fun q=>decide (q.1=s)).map fun q=>q.2
noncomputable def Ay (ps:List (List UInt8 × OfferT)) (s:List UInt8):List AV:=(B6 ps s).map Id
theorem Xv (ps:List (List UInt8 × OfferT)) (s:List UInt8) (o:OfferT):Di (Ay ps) s (Ay ps s++[Id o])=Ay (ps++[(s,o)]):=by
 funext t
 unfold Di Ay B6
 rw[List.filter_append,List.map_append,List.map_append]
 by_cases h:t=s
 ·subst h;rw[if_pos rfl];simp
 ·rw[if_neg h]
  have:¬s=t:=fun q=>h q.symm
  simp[this]
theorem Pk (ps:List (List UInt8 × OfferT)) (s:List UInt8):(Ay ps s).length≤ps.length:=by
 unfold Ay B6
 rw[List.length_map,List.length_map];exact List.length_filter_le _ _
def E4 (i:Nat) (p:PkgT) (j:Nat):List (List UInt8 × OfferT):=(p.name,⟨i,true,2,p.evr⟩)::(p.provides.take j).map fun d=>(d.name,⟨i,false,d.op,d.evr⟩)
def Ej (i:Nat) (p:PkgT) (j:Nat):List (List UInt8 × OfferT):=E4 i p p.provides.length++(p.files.take j).map fun f=>(f,⟨i,false,0,[]⟩)
def Lc (i:Nat) (p:PkgT):List (List UInt8 × OfferT):=Ej i p p.files.length
def Bg (l:List (PkgT × Int)) (n:Nat):List (List UInt8 × OfferT):=(List.range n).flatMap fun i=>Lc i (nth l i).1
theorem Q6n {i:Nat} {p:PkgT} {j:Nat} (h:j < p.provides.length):E4 i p (j+1)=E4 i p j++[((nth p.provides j).name,⟨i,false,(nth p.provides j).op,(nth p.provides j).evr⟩)]:=by
 unfold E4
 rw[List.take_add_one,List.getElem?_eq_getElem h,List.map_append]
 simp[nth,h]
theorem Q6m {i:Nat} {p:PkgT} {j:Nat} (h:j < p.files.length):Ej i p (j+1)=Ej i p j++[(nth p.files j,⟨i,false,0,[]⟩)]:=by
 unfold Ej
 rw[List.take_add_one,List.getElem?_eq_getElem h,List.map_append,List.append_assoc]
 simp[nth,h]
theorem Wn {l:List (PkgT × Int)} {n:Nat}:Bg l (n+1)=Bg l n++Lc n (nth l n).1:=by
 unfold Bg
 rw[List.range_succ,List.flatMap_append];simp
theorem Pb {i:Nat} {p:PkgT} {j:Nat}:(E4 i p j).length≤1+p.provides.length:=by
 unfold E4;simp only[List.length_cons,List.length_map,List.length_take];omega
theorem Pa {i:Nat} {p:PkgT} {j:Nat}:(Ej i p j).length≤1+p.provides.length+p.files.length:=by
 have:=Pb (i:=i) (p:=p) (j:=p.provides.length)
 unfold Ej;simp only[List.length_append,List.length_map,List.length_take];omega
theorem Wo {l:List (PkgT × Int)} (hs:∀i,i < l.length→(nth l i).1.size≤4194304):∀n,n≤l.length→(Bg l n).length≤n*8388609:=by
 intro n
 induction n with
 |zero=>intro _;exact Nat.le_refl _
 |succ n ih =>
  intro h
  have h1:=ih (by omega)
  have h2:=Pa (i:=n) (p:=(nth l n).1) (j:=(nth l n).1.files.length)
  have h3:=(nth l n).1.sizes
  have h4:=hs n (by omega)
  have h5:=Em (nth l n).1.provides
  have h6:=Kk (nth l n).1.files
  have h7:argsSize (nth l n).1.provides≤(nth l n).1.depSize:=by unfold PkgT.depSize;omega
  rw[Wn,List.length_append]
  unfold Lc
  omega
noncomputable def D2 (st:PoolT):AV:=.agg [.int .i64 st.kind,.int .i64 (st.all.length:Int),.smap (.slice none 0 0) (fun s => .row 4 (Ay (Bg st.all st.all.length) s).length (fun i=>(Ay (Bg st.all st.all.length) s).getD i Bl))]
theorem Sb (kind count : Int) (ps : List (List UInt8 × OfferT)) (s : List UInt8) (o : OfferT) (hl : (Ay ps s).length ≤ 2147483648) :
  Fc Tryz.prog 100 [(.str s),(.agg [(.int .i64 o.id),(.bool o.own),(.int .i64 o.op),(.str o.evr)]),(.ptr 0 0)] [(0,(.row [(.ptr 1 0)] 93)),(1,(.row [(.int .i64 kind),(.int .i64 count),(.map 2)] 136)),(2,(.mm (Ay ps) none 138 4))] 3 (.tup []) [(0,(.row [(.ptr 1 0)] 93)),(1,(.row [(.int .i64 kind),(.int .i64 count),(.map 2)] 136)),(2,(.mm (Ay (ps++[(s,o)])) none 138 4))]:=by
 refine Kz [] Tryz.func100 rfl Tryz.ntmps100 rfl rfl (by kernel_rfl) (by kernel_rfl) (by kernel_rfl) (fun B F hF=>?_)
 refine Aa [] [0,2,4] ?_
 refine Qx 4 (y:=⟨[(0,(.str s)),(2,(.ptr 0 0)),(4,(.fp (.agg [(.int .i64 o.id),(.bool o.own),(.int .i64 o.op),(.str o.evr)])))],[(0,(.row [(.ptr 1 0)] 93)),(1,(.row [(.int .i64 kind),(.int .i64 count),(.map 2)] 136)),(2,(.mm (Ay ps) none 138 4))],4⟩) (by kernel_rfl) ?_
 refine Iz (by kernel_rfl) (fun F1 hF1=>?_)
 refine B5 false 1 (lsD 15 [0,1,2,3,4,5,6,7,8,9,10,11,12,13]) ⟨[(8,(.map 2)),(9,(.str s)),(18,(.own 4))],[(0,(.row [(.ptr 1 0)] 93)),(1,(.row [(.int .i64 kind),(.int .i64 count),(.map 2)] 136)),(2,(.mm (Ay ps) (some s) 138 4)),(4,(.grow (((Ay ps) s)++([(.agg [(.int .i64 o.id),(.bool o.own),(.int .i64 o.op),(.str o.evr)])]:List AV)) 138 4)),(5,(.row [(.int .i64 o.id),(.bool o.own),(.int .i64 o.op),(.str o.evr)] 138))],6⟩ ?_ (fun m1_1=>?_)
 ·refine Ep (fuel:=0) 14 (by kernel_rfl) ?_
  refine Cf (fuel:=0) 14 rfl ?_
  refine Q1 (b:=2) (c:=4) (s:=s) (s1:=s) (y:=⟨[(8,(.map 2)),(9,(.str s)),(18,(.own 4))],[(0,(.row [(.ptr 1 0)] 93)),(1,(.row [(.int .i64 kind),(.int .i64 count),(.map 2)] 136)),(2,(.mm (Di (Ay ps) s (((Ay ps) s)++([(.agg [(.int .i64 o.id),(.bool o.own),(.int .i64 o.op),(.str o.evr)])]:List AV))) none 138 4)),(5,(.row [(.int .i64 o.id),(.bool o.own),(.int .i64 o.op),(.str o.evr)] 138))],6⟩) (by kernel_rfl) (by kernel_rfl) (by kernel_rfl) (by kernel_rfl) (by kernel_rfl) rfl Tryz.underlying134 Tryz.underlying9 (by kernel_rfl) rfl ?_
  refine Bo ⟨rfl,?_⟩
  refine As [] ?_
  refine Hd (by kernel_rfl) ?_
  refine D0 (.inr rfl) (al:=[]) (by kernel_rfl) ?_ ((by kernel_rfl:Cj 3 _=some [(0,(.row [(.ptr 1 0)] 93)),(1,(.row [(.int .i64 kind),(.int .i64 count),(.map 2)] 136)),(2,(.mm (Di (Ay ps) s (((Ay ps) s)++([(.agg [(.int .i64 o.id),(.bool o.own),(.int .i64 o.op),(.str o.evr)])]:List AV))) none 138 4))]).trans ?_)
  ·rfl
  ·rw[show(Di (Ay ps) s (((Ay ps) s)++([(.agg [(.int .i64 o.id),(.bool o.own),(.int .i64 o.op),(.str o.evr)])]:List AV)))=Ay (ps++[(s,o)]) from Xv ps s o]<;>kernel_rfl
 refine B5 false 1 (lsD 15 [0,1,2,3,4,5,6,7,8,9,10,11,12,13]) ⟨[(8,(.map 2)),(9,(.str s)),(18,(.own 5))],[(0,(.row [(.ptr 1 0)] 93)),(1,(.row [(.int .i64 kind),(.int .i64 count),(.map 2)] 136)),(2,(.mm (Ay ps) (some s) 138 4)),(4,(.row [(.int .i64 o.id),(.bool o.own),(.int .i64 o.op),(.str o.evr)] 138)),(5,(.grow (((Ay ps) s)++([(.agg [(.int .i64 o.id),(.bool o.own),(.int .i64 o.op),(.str o.evr)])]:List AV)) 138 4))],6⟩ ?_ (fun m1_2=>?_)
 ·refine Ep (fuel:=0) 14 (by kernel_rfl) ?_
  refine Cf (fuel:=0) 14 rfl ?_
  refine Q1 (b:=2) (c:=5) (s:=s) (s1:=s) (y:=⟨[(8,(.map 2)),(9,(.str s)),(18,(.own 5))],[(0,(.row [(.ptr 1 0)] 93)),(1,(.row [(.int .i64 kind),(.int .i64 count),(.map 2)] 136)),(2,(.mm (Di (Ay ps) s (((Ay ps) s)++([(.agg [(.int .i64 o.id),(.bool o.own),(.int .i64 o.op),(.str o.evr)])]:List AV))) none 138 4)),(4,(.row [(.int .i64 o.id),(.bool o.own),(.int .i64 o.op),(.str o.evr)] 138))],6⟩) (by kernel_rfl) (by kernel_rfl) (by kernel_rfl) (by kernel_rfl) (by kernel_rfl) rfl Tryz.underlying134 Tryz.underlying9 (by kernel_rfl) rfl ?_
  refine Bo ⟨rfl,?_⟩
  refine As [] ?_
  refine Hd (by kernel_rfl) ?_
  refine D0 (.inr rfl) (al:=[]) (by kernel_rfl) ?_ ((by kernel_rfl:Cj 3 _=some [(0,(.row [(.ptr 1 0)] 93)),(1,(.row [(.int .i64 kind),(.int .i64 count),(.map 2)] 136)),(2,(.mm (Di (Ay ps) s (((Ay ps) s)++([(.agg [(.int .i64 o.id),(.bool o.own),(.int .i64 o.op),(.str o.evr)])]:List AV))) none 138 4))]).trans ?_)
  ·rfl
  ·rw[show(Di (Ay ps) s (((Ay ps) s)++([(.agg [(.int .i64 o.id),(.bool o.own),(.int .i64 o.op),(.str o.evr)])]:List AV)))=Ay (ps++[(s,o)]) from Xv ps s o]<;>kernel_rfl
 refine B5 false 2 (lsD 15 [0,1,2,3,4,5,6,7,8,9,10,11,12]) ⟨[(8,(.map 2)),(9,(.str s)),(15,(.own 4)),(17,(.sl 5 0 1 1 false))],[(0,(.row [(.ptr 1 0)] 93)),(1,(.row [(.int .i64 kind),(.int .i64 count),(.map 2)] 136)),(2,(.mm (Ay ps) (some s) 138 4)),(4,(.grow ((Ay ps) s) 138 4)),(5,(.row [(.int .i64 o.id),(.bool o.own),(.int .i64 o.op),(.str o.evr)] 138))],6⟩ ?_ (fun m1_3=>?_)
 ·refine Cq (fuel:=1) 13 [] (hold (p:=((((Ay ps) s).length+1)*40≤140737488355328)) (by omega)) ?_
  refine As [8,9,18] ?_
  exact A0 m1_1
 refine B5 false 2 (lsD 15 [0,1,2,3,4,5,6,7,8,9,10,11,12]) ⟨[(8,(.map 2)),(9,(.str s)),(15,(.own 5)),(17,(.sl 4 0 1 1 false))],[(0,(.row [(.ptr 1 0)] 93)),(1,(.row [(.int .i64 kind),(.int .i64 count),(.map 2)] 136)),(2,(.mm (Ay ps) (some s) 138 4)),(4,(.row [(.int .i64 o.id),(.bool o.own),(.int .i64 o.op),(.str o.evr)] 138)),(5,(.grow ((Ay ps) s) 138 4))],6⟩ ?_ (fun m1_4=>?_)
 ·refine Cq (fuel:=1) 13 [] (hold (p:=((((Ay ps) s).length+1)*40≤140737488355328)) (by omega)) ?_
  refine As [8,9,18] ?_
  exact A0 m1_2
 refine B5 false 2 (lsD 15 [0,1,2,4,5,6,7,8,9,10,11,12,13]) ⟨[(7,(.ptr 1 2)),(9,(.str s)),(18,(.own 4))],[(0,(.row [(.ptr 1 0)] 93)),(1,(.row [(.int .i64 kind),(.int .i64 count),(.map 2)] 136)),(2,(.mm (Ay ps) (some s) 138 4)),(4,(.grow (((Ay ps) s)++([(.agg [(.int .i64 o.id),(.bool o.own),(.int .i64 o.op),(.str o.evr)])]:List AV)) 138 4)),(5,(.row [(.int .i64 o.id),(.bool o.own),(.int .i64 o.op),(.str o.evr)] 138))],6⟩ ?_ (fun m1_5=>?_)
 ·refine Cq (fuel:=1) 3 [] Av ?_
  refine As [8,9,18] ?_
  exact A0 m1_1
 refine B5 false 2 (lsD 15 [0,1,2,4,5,6,7,8,9,10,11,12,13]) ⟨[(7,(.ptr 1 2)),(9,(.str s)),(18,(.own 5))],[(0,(.row [(.ptr 1 0)] 93)),(1,(.row [(.int .i64 kind),(.int .i64 count),(.map 2)] 136)),(2,(.mm (Ay ps) (some s) 138 4)),(4,(.row [(.int .i64 o.id),(.bool o.own),(.int .i64 o.op),(.str o.evr)] 138)),(5,(.grow (((Ay ps) s)++([(.agg [(.int .i64 o.id),(.bool o.own),(.int .i64 o.op),(.str o.evr)])]:List AV)) 138 4))],6⟩ ?_ (fun m1_6=>?_)
 ·refine Cq (fuel:=1) 3 [] Av ?_
  refine As [8,9,18] ?_
  exact A0 m1_2
 refine B5 false 3 (lsD 15 [0,1,2,3,4,5,6,7,8,9,10,11]) ⟨[(8,(.map 2)),(9,(.str s)),(15,(.own 4)),(16,(.agg [(.int .i64 o.id),(.bool o.own),(.int .i64 o.op),(.str o.evr)]))],[(0,(.row [(.ptr 1 0)] 93)),(1,(.row [(.int .i64 kind),(.int .i64 count),(.map 2)] 136)),(2,(.mm (Ay ps) (some s) 138 4)),(4,(.grow ((Ay ps) s) 138 4))],5⟩ ?_ (fun m1_7=>?_)
 ·refine Cq (fuel:=2) 12 [] Av ?_
  refine As [8,9,15,17] ?_
  exact A0 m1_3
 refine B5 true 3 (lsD 15 [0,1,2,3,4,5,6,7,8,9,11,12]) ⟨[(8,(.map 2)),(9,(.str s)),(13,(.map 2)),(14,(.str s)),(17,(.sl 4 0 1 1 false))],[(0,(.row [(.ptr 1 0)] 93)),(1,(.row [(.int .i64 kind),(.int .i64 count),(.map 2)] 136)),(2,(.mm (Ay ps) none 138 4)),(4,(.row [(.int .i64 o.id),(.bool o.own),(.int .i64 o.op),(.str o.evr)] 138))],5⟩ ?_ (fun m1_8=>?_)
 ·refine Ep (fuel:=2) 10 (by kernel_rfl) ?_
  refine Cf (fuel:=2) 10 rfl ?_
  refine Ey (b:=2) (s:=s) (y:=⟨[(8,(.map 2)),(9,(.str s)),(13,(.map 2)),(14,(.str s)),(17,(.sl 4 0 1 1 false)),(15,(.own 5))],[(0,(.row [(.ptr 1 0)] 93)),(1,(.row [(.int .i64 kind),(.int .i64 count),(.map 2)] 136)),(2,(.mm (Ay ps) (some s) 138 4)),(4,(.row [(.int .i64 o.id),(.bool o.own),(.int .i64 o.op),(.str o.evr)] 138)),(5,(.grow ((Ay ps) s) 138 4))],6⟩) (by kernel_rfl) (by kernel_rfl) (by kernel_rfl) Tryz.underlying134 Tryz.underlying9 (fun _=>by kernel_rfl) (by kernel_rfl) ?_
  refine Bo ⟨rfl,?_⟩
  refine As [8,9,15,17] ?_
  exact A0 m1_4
 refine B5 false 3 (lsD 15 [0,1,2,4,5,6,7,8,9,10,11,12]) ⟨[(7,(.ptr 1 2)),(9,(.str s)),(15,(.own 4)),(17,(.sl 5 0 1 1 false))],[(0,(.row [(.ptr 1 0)] 93)),(1,(.row [(.int .i64 kind),(.int .i64 count),(.map 2)] 136)),(2,(.mm (Ay ps) (some s) 138 4)),(4,(.grow ((Ay ps) s) 138 4)),(5,(.row [(.int .i64 o.id),(.bool o.own),(.int .i64 o.op),(.str o.evr)] 138))],6⟩ ?_ (fun m1_9=>?_)
 ·refine Ca 3 13 (by kernel_rfl) ?_ ?_
  ·refine A2 (fuel:=2) 3 [] Av ?_
   refine As [8,9,15,17] ?_
   exact A0 m1_3
  ·refine A2 (fuel:=2) 13 [] (hold (p:=((((Ay ps) s).length+1)*40≤140737488355328)) (by omega)) ?_
   refine As [7,9,18] ?_
   exact A0 m1_5
 refine B5 false 3 (lsD 15 [0,1,2,4,5,6,7,8,9,10,11,12]) ⟨[(7,(.ptr 1 2)),(9,(.str s)),(15,(.own 5)),(17,(.sl 4 0 1 1 false))],[(0,(.row [(.ptr 1 0)] 93)),(1,(.row [(.int .i64 kind),(.int .i64 count),(.map 2)] 136)),(2,(.mm (Ay ps) (some s) 138 4)),(4,(.row [(.int .i64 o.id),(.bool o.own),(.int .i64 o.op),(.str o.evr)] 138)),(5,(.grow ((Ay ps) s) 138 4))],6⟩ ?_ (fun m1_10=>?_)
 ·refine Ca 3 13 (by kernel_rfl) ?_ ?_
  ·refine A2 (fuel:=2) 3 [] Av ?_
   refine As [8,9,15,17] ?_
   exact A0 m1_4
  ·refine A2 (fuel:=2) 13 [] (hold (p:=((((Ay ps) s).length+1)*40≤140737488355328)) (by omega)) ?_
   refine As [7,9,18] ?_
   exact A0 m1_6
 refine B5 true 4 (lsD 15 [0,1,2,3,4,5,6,7,8,9,11]) ⟨[(8,(.map 2)),(9,(.str s)),(13,(.map 2)),(14,(.str s)),(16,(.agg [(.int .i64 o.id),(.bool o.own),(.int .i64 o.op),(.str o.evr)]))],[(0,(.row [(.ptr 1 0)] 93)),(1,(.row [(.int .i64 kind),(.int .i64 count),(.map 2)] 136)),(2,(.mm (Ay ps) none 138 4))],4⟩ ?_ (fun m1_11=>?_)
 ·refine Ca 10 12 (by kernel_rfl) ?_ ?_
  ·refine Cf (fuel:=3) 10 rfl ?_
   refine Ey (b:=2) (s:=s) (y:=⟨[(8,(.map 2)),(9,(.str s)),(13,(.map 2)),(14,(.str s)),(16,(.agg [(.int .i64 o.id),(.bool o.own),(.int .i64 o.op),(.str o.evr)])),(15,(.own 4))],[(0,(.row [(.ptr 1 0)] 93)),(1,(.row [(.int .i64 kind),(.int .i64 count),(.map 2)] 136)),(2,(.mm (Ay ps) (some s) 138 4)),(4,(.grow ((Ay ps) s) 138 4))],5⟩) (by kernel_rfl) (by kernel_rfl) (by kernel_rfl) Tryz.underlying134 Tryz.underlying9 (fun _=>by kernel_rfl) (by kernel_rfl) ?_
   refine Bo ⟨rfl,?_⟩
   refine As [8,9,15,16] ?_
   exact A0 m1_7
  ·refine A2 (fuel:=3) 12 [] Av ?_
   refine As [8,9,13,14,17] ?_
   exact A0 m1_8
 refine B5 true 4 (lsD 15 [0,1,2,3,4,5,6,7,9,11,12]) ⟨[(8,(.map 2)),(9,(.str s)),(12,(.ptr 1 2)),(14,(.str s)),(17,(.sl 4 0 1 1 false))],[(0,(.row [(.ptr 1 0)] 93)),(1,(.row [(.int .i64 kind),(.int .i64 count),(.map 2)] 136)),(2,(.mm (Ay ps) none 138 4)),(4,(.row [(.int .i64 o.id),(.bool o.own),(.int .i64 o.op),(.str o.evr)] 138))],5⟩ ?_ (fun m1_12=>?_)
 ·refine Cq (fuel:=3) 8 [] Av ?_
  refine As [8,9,13,14,17] ?_
  exact A0 m1_8
 refine B5 false 4 (lsD 15 [0,1,2,4,5,6,7,8,9,10,11]) ⟨[(7,(.ptr 1 2)),(9,(.str s)),(15,(.own 4)),(16,(.agg [(.int .i64 o.id),(.bool o.own),(.int .i64 o.op),(.str o.evr)]))],[(0,(.row [(.ptr 1 0)] 93)),(1,(.row [(.int .i64 kind),(.int .i64 count),(.map 2)] 136)),(2,(.mm (Ay ps) (some s) 138 4)),(4,(.grow ((Ay ps) s) 138 4))],5⟩ ?_ (fun m1_13=>?_)
 ·refine Ca 3 12 (by kernel_rfl) ?_ ?_
  ·refine A2 (fuel:=3) 3 [] Av ?_
   refine As [8,9,15,16] ?_
   exact A0 m1_7
  ·refine A2 (fuel:=3) 12 [] Av ?_
   refine As [7,9,15,17] ?_
   exact A0 m1_9
 refine B5 true 4 (lsD 15 [0,1,2,4,5,6,7,8,9,11,12]) ⟨[(7,(.ptr 1 2)),(9,(.str s)),(13,(.map 2)),(14,(.str s)),(17,(.sl 4 0 1 1 false))],[(0,(.row [(.ptr 1 0)] 93)),(1,(.row [(.int .i64 kind),(.int .i64 count),(.map 2)] 136)),(2,(.mm (Ay ps) none 138 4)),(4,(.row [(.int .i64 o.id),(.bool o.own),(.int .i64 o.op),(.str o.evr)] 138))],5⟩ ?_ (fun m1_14=>?_)
 ·refine Ca 3 10 (by kernel_rfl) ?_ ?_
  ·refine A2 (fuel:=3) 3 [] Av ?_
   refine As [8,9,13,14,17] ?_
   exact A0 m1_8
  ·refine Cf (fuel:=3) 10 rfl ?_
   refine Ey (b:=2) (s:=s) (y:=⟨[(7,(.ptr 1 2)),(9,(.str s)),(13,(.map 2)),(14,(.str s)),(17,(.sl 4 0 1 1 false)),(15,(.own 5))],[(0,(.row [(.ptr 1 0)] 93)),(1,(.row [(.int .i64 kind),(.int .i64 count),(.map 2)] 136)),(2,(.mm (Ay ps) (some s) 138 4)),(4,(.row [(.int .i64 o.id),(.bool o.own),(.int .i64 o.op),(.str o.evr)] 138)),(5,(.grow ((Ay ps) s) 138 4))],6⟩) (by kernel_rfl) (by kernel_rfl) (by kernel_rfl) Tryz.underlying134 Tryz.underlying9 (fun _=>by kernel_rfl) (by kernel_rfl) ?_
   refine Bo ⟨rfl,?_⟩
   refine As [7,9,15,17] ?_
   exact A0 m1_10
 refine B5 true 5 (lsD 15 [0,1,2,3,4,5,6,7,9,11]) ⟨[(8,(.map 2)),(9,(.str s)),(12,(.ptr 1 2)),(14,(.str s)),(16,(.agg [(.int .i64 o.id),(.bool o.own),(.int .i64 o.op),(.str o.evr)]))],[(0,(.row [(.ptr 1 0)] 93)),(1,(.row [(.int .i64 kind),(.int .i64 count),(.map 2)] 136)),(2,(.mm (Ay ps) none 138 4))],4⟩ ?_ (fun m1_15=>?_)
 ·refine Ca 8 12 (by kernel_rfl) ?_ ?_
  ·refine A2 (fuel:=4) 8 [] Av ?_
   refine As [8,9,13,14,16] ?_
   exact A0 m1_11
  ·refine A2 (fuel:=4) 12 [] Av ?_
   refine As [8,9,12,14,17] ?_
   exact A0 m1_12
 refine B5 true 5 (lsD 15 [0,1,2,4,5,6,7,8,9,11]) ⟨[(7,(.ptr 1 2)),(9,(.str s)),(13,(.map 2)),(14,(.str s)),(16,(.agg [(.int .i64 o.id),(.bool o.own),(.int .i64 o.op),(.str o.evr)]))],[(0,(.row [(.ptr 1 0)] 93)),(1,(.row [(.int .i64 kind),(.int .i64 count),(.map 2)] 136)),(2,(.mm (Ay ps) none 138 4))],4⟩ ?_ (fun m1_16=>?_)
 ·refine Fs 3 10 12 (by kernel_rfl) ?_ ?_ ?_
  ·refine A2 (fuel:=4) 3 [] Av ?_
   refine As [8,9,13,14,16] ?_
   exact A0 m1_11
  ·refine Cf (fuel:=4) 10 rfl ?_
   refine Ey (b:=2) (s:=s) (y:=⟨[(7,(.ptr 1 2)),(9,(.str s)),(13,(.map 2)),(14,(.str s)),(16,(.agg [(.int .i64 o.id),(.bool o.own),(.int .i64 o.op),(.str o.evr)])),(15,(.own 4))],[(0,(.row [(.ptr 1 0)] 93)),(1,(.row [(.int .i64 kind),(.int .i64 count),(.map 2)] 136)),(2,(.mm (Ay ps) (some s) 138 4)),(4,(.grow ((Ay ps) s) 138 4))],5⟩) (by kernel_rfl) (by kernel_rfl) (by kernel_rfl) Tryz.underlying134 Tryz.underlying9 (fun _=>by kernel_rfl) (by kernel_rfl) ?_
   refine Bo ⟨rfl,?_⟩
   refine As [7,9,15,16] ?_
   exact A0 m1_13
  ·refine A2 (fuel:=4) 12 [] Av ?_
   refine As [7,9,13,14,17] ?_
   exact A0 m1_14
 refine B5 true 5 (lsD 15 [0,1,2,4,5,6,7,9,11,12]) ⟨[(7,(.ptr 1 2)),(9,(.str s)),(12,(.ptr 1 2)),(14,(.str s)),(17,(.sl 4 0 1 1 false))],[(0,(.row [(.ptr 1 0)] 93)),(1,(.row [(.int .i64 kind),(.int .i64 count),(.map 2)] 136)),(2,(.mm (Ay ps) none 138 4)),(4,(.row [(.int .i64 o.id),(.bool o.own),(.int .i64 o.op),(.str o.evr)] 138))],5⟩ ?_ (fun m1_17=>?_)
 ·refine Ca 3 8 (by kernel_rfl) ?_ ?_
  ·refine A2 (fuel:=4) 3 [] Av ?_
   refine As [8,9,12,14,17] ?_
   exact A0 m1_12
  ·refine A2 (fuel:=4) 8 [] Av ?_
   refine As [7,9,13,14,17] ?_
   exact A0 m1_14
 refine B5 true 7 (lsD 15 [0,1,2,3,4,9,11,12]) ⟨[(2,(.ptr 0 0)),(8,(.map 2)),(9,(.str s)),(14,(.str s)),(17,(.sl 4 0 1 1 false))],[(0,(.row [(.ptr 1 0)] 93)),(1,(.row [(.int .i64 kind),(.int .i64 count),(.map 2)] 136)),(2,(.mm (Ay ps) none 138 4)),(4,(.row [(.int .i64 o.id),(.bool o.own),(.int .i64 o.op),(.str o.evr)] 138))],5⟩ ?_ (fun m1_18=>?_)
 ·refine Cq (fuel:=6) 5 [] Av ?_
  refine Ck (fuel:=4) [] [6,7] [8,9,12,14,17] Av ?_
  refine Cq (fuel:=3) 8 [] Av ?_
  refine As [8,9,13,14,17] ?_
  exact A0 m1_8
 refine B5 true 7 (lsD 15 [0,1,2,4,5,9,11,12]) ⟨[(7,(.ptr 1 2)),(9,(.str s)),(10,(.ptr 1 0)),(14,(.str s)),(17,(.sl 4 0 1 1 false))],[(0,(.row [(.ptr 1 0)] 93)),(1,(.row [(.int .i64 kind),(.int .i64 count),(.map 2)] 136)),(2,(.mm (Ay ps) none 138 4)),(4,(.row [(.int .i64 o.id),(.bool o.own),(.int .i64 o.op),(.str o.evr)] 138))],5⟩ ?_ (fun m1_19=>?_)
 ·refine Ck (fuel:=5) [] [6,7] [7,9,12,14,17] Av ?_
  refine Ca 3 8 (by kernel_rfl) ?_ ?_
  ·refine A2 (fuel:=4) 3 [] Av ?_
   refine As [8,9,12,14,17] ?_
   exact A0 m1_12
  ·refine A2 (fuel:=4) 8 [] Av ?_
   refine As [7,9,13,14,17] ?_
   exact A0 m1_14
 refine B5 true 7 (lsD 15 [4,5,6,7,8,9,11,12]) ⟨[(2,(.ptr 0 0)),(9,(.str s)),(13,(.map 2)),(14,(.str s)),(17,(.sl 4 0 1 1 false))],[(0,(.row [(.ptr 1 0)] 93)),(1,(.row [(.int .i64 kind),(.int .i64 count),(.map 2)] 136)),(2,(.mm (Ay ps) none 138 4)),(4,(.row [(.int .i64 o.id),(.bool o.own),(.int .i64 o.op),(.str o.evr)] 138))],5⟩ ?_ (fun m1_20=>?_)
 ·refine Ca 0 10 (by kernel_rfl) ?_ ?_
  ·refine A2 (fuel:=6) 0 [] Av ?_
   refine As [5,9,13,14,17] ?_
   refine Ck (fuel:=4) [] [1,2] [7,9,13,14,17] Av ?_
   refine Ca 3 10 (by kernel_rfl) ?_ ?_
   ·refine A2 (fuel:=3) 3 [] Av ?_
    refine As [8,9,13,14,17] ?_
    exact A0 m1_8
   ·refine Cf (fuel:=3) 10 rfl ?_
    refine Ey (b:=2) (s:=s) (y:=⟨[(7,(.ptr 1 2)),(9,(.str s)),(13,(.map 2)),(14,(.str s)),(17,(.sl 4 0 1 1 false)),(15,(.own 5))],[(0,(.row [(.ptr 1 0)] 93)),(1,(.row [(.int .i64 kind),(.int .i64 count),(.map 2)] 136)),(2,(.mm (Ay ps) (some s) 138 4)),(4,(.row [(.int .i64 o.id),(.bool o.own),(.int .i64 o.op),(.str o.evr)] 138)),(5,(.grow ((Ay ps) s) 138 4))],6⟩) (by kernel_rfl) (by kernel_rfl) (by kernel_rfl) Tryz.underlying134 Tryz.underlying9 (fun _=>by kernel_rfl) (by kernel_rfl) ?_
    refine Bo ⟨rfl,?_⟩
    refine As [7,9,15,17] ?_
    exact A0 m1_10
  ·refine Cf (fuel:=6) 10 rfl ?_
   refine Ey (b:=2) (s:=s) (y:=⟨[(2,(.ptr 0 0)),(9,(.str s)),(13,(.map 2)),(14,(.str s)),(17,(.sl 4 0 1 1 false)),(15,(.own 5))],[(0,(.row [(.ptr 1 0)] 93)),(1,(.row [(.int .i64 kind),(.int .i64 count),(.map 2)] 136)),(2,(.mm (Ay ps) (some s) 138 4)),(4,(.row [(.int .i64 o.id),(.bool o.own),(.int .i64 o.op),(.str o.evr)] 138)),(5,(.grow ((Ay ps) s) 138 4))],6⟩) (by kernel_rfl) (by kernel_rfl) (by kernel_rfl) Tryz.underlying134 Tryz.underlying9 (fun _=>by kernel_rfl) (by kernel_rfl) ?_
   refine Bo ⟨rfl,?_⟩
   refine As [2,9,15,17] ?_
   refine Ca 0 13 (by kernel_rfl) ?_ ?_
   ·refine A2 (fuel:=5) 0 [] Av ?_
    refine As [5,9,15,17] ?_
    refine Ck (fuel:=3) [] [1,2] [7,9,15,17] Av ?_
    refine Ca 3 13 (by kernel_rfl) ?_ ?_
    ·refine A2 (fuel:=2) 3 [] Av ?_
     refine As [8,9,15,17] ?_
     exact A0 m1_4
    ·refine A2 (fuel:=2) 13 [] (hold (p:=((((Ay ps) s).length+1)*40≤140737488355328)) (by omega)) ?_
     refine As [7,9,18] ?_
     exact A0 m1_6
   ·refine A2 (fuel:=5) 13 [] (hold (p:=((((Ay ps) s).length+1)*40≤140737488355328)) (by omega)) ?_
    refine As [2,9,18] ?_
    refine Cq (fuel:=4) 0 [] Av ?_
    refine Ck (fuel:=2) [] [1,2] [7,9,18] Av ?_
    refine Cq (fuel:=1) 3 [] Av ?_
    refine As [8,9,18] ?_
    exact A0 m1_2
 refine B5 true 7 (lsD 15 [0,4,5,6,7,9,11,12]) ⟨[(5,(.ptr 1 0)),(9,(.str s)),(12,(.ptr 1 2)),(14,(.str s)),(17,(.sl 4 0 1 1 false))],[(0,(.row [(.ptr 1 0)] 93)),(1,(.row [(.int .i64 kind),(.int .i64 count),(.map 2)] 136)),(2,(.mm (Ay ps) none 138 4)),(4,(.row [(.int .i64 o.id),(.bool o.own),(.int .i64 o.op),(.str o.evr)] 138))],5⟩ ?_ (fun m1_21=>?_)
 ·refine Ck (fuel:=5) [] [1,2] [7,9,12,14,17] Av ?_
  refine Ca 3 8 (by kernel_rfl) ?_ ?_
  ·refine A2 (fuel:=4) 3 [] Av ?_
   refine As [8,9,12,14,17] ?_
   exact A0 m1_12
  ·refine A2 (fuel:=4) 8 [] Av ?_
   refine As [7,9,13,14,17] ?_
   exact A0 m1_14
 refine Ck (fuel:=12) [] [4,9,11] [2,9,14,16] Av ?_
 refine Fs 0 5 12 (by kernel_rfl) ?_ ?_ ?_
 ·refine A2 (fuel:=11) 0 [] Av ?_
  refine As [2,5,9,14,16] ?_
  refine Ck (fuel:=9) [] [1,2] [2,7,9,14,16] Av ?_
  refine Fs 3 5 12 (by kernel_rfl) ?_ ?_ ?_
  ·refine A2 (fuel:=8) 3 [] Av ?_
   refine As [2,8,9,14,16] ?_
   refine Ca 5 12 (by kernel_rfl) ?_ ?_
   ·refine A2 (fuel:=7) 5 [] Av ?_
    refine As [8,9,10,14,16] ?_
    refine Ck (fuel:=5) [] [6,7] [8,9,12,14,16] Av ?_
    refine Ca 8 12 (by kernel_rfl) ?_ ?_
    ·refine A2 (fuel:=4) 8 [] Av ?_
     refine As [8,9,13,14,16] ?_
     exact A0 m1_11
    ·refine A2 (fuel:=4) 12 [] Av ?_
     refine As [8,9,12,14,17] ?_
     exact A0 m1_12
   ·refine A2 (fuel:=7) 12 [] Av ?_
    refine As [2,8,9,14,17] ?_
    exact A0 m1_18
  ·refine A2 (fuel:=8) 5 [] Av ?_
   refine As [7,9,10,14,16] ?_
   refine Ck (fuel:=6) [] [6,7] [7,9,12,14,16] Av ?_
   refine Fs 3 8 12 (by kernel_rfl) ?_ ?_ ?_
   ·refine A2 (fuel:=5) 3 [] Av ?_
    refine As [8,9,12,14,16] ?_
    exact A0 m1_15
   ·refine A2 (fuel:=5) 8 [] Av ?_
    refine As [7,9,13,14,16] ?_
    exact A0 m1_16
   ·refine A2 (fuel:=5) 12 [] Av ?_
    refine As [7,9,12,14,17] ?_
    exact A0 m1_17
  ·refine A2 (fuel:=8) 12 [] Av ?_
   refine As [2,7,9,14,17] ?_
   refine Ca 3 5 (by kernel_rfl) ?_ ?_
   ·refine A2 (fuel:=7) 3 [] Av ?_
    refine As [2,8,9,14,17] ?_
    exact A0 m1_18
   ·refine A2 (fuel:=7) 5 [] Av ?_
    refine As [7,9,10,14,17] ?_
    exact A0 m1_19
 ·refine A2 (fuel:=11) 5 [] Av ?_
  refine As [2,9,10,14,16] ?_
  refine Ck (fuel:=9) [] [6,7] [2,9,12,14,16] Av ?_
  refine Fs 0 8 12 (by kernel_rfl) ?_ ?_ ?_
  ·refine A2 (fuel:=8) 0 [] Av ?_
   refine As [5,9,12,14,16] ?_
   refine Ck (fuel:=6) [] [1,2] [7,9,12,14,16] Av ?_
   refine Fs 3 8 12 (by kernel_rfl) ?_ ?_ ?_
   ·refine A2 (fuel:=5) 3 [] Av ?_
    refine As [8,9,12,14,16] ?_
    exact A0 m1_15
   ·refine A2 (fuel:=5) 8 [] Av ?_
    refine As [7,9,13,14,16] ?_
    exact A0 m1_16
   ·refine A2 (fuel:=5) 12 [] Av ?_
    refine As [7,9,12,14,17] ?_
    exact A0 m1_17
  ·refine A2 (fuel:=8) 8 [] Av ?_
   refine As [2,9,13,14,16] ?_
   refine Fs 0 10 12 (by kernel_rfl) ?_ ?_ ?_
   ·refine A2 (fuel:=7) 0 [] Av ?_
    refine As [5,9,13,14,16] ?_
    refine Ck (fuel:=5) [] [1,2] [7,9,13,14,16] Av ?_
    refine Fs 3 10 12 (by kernel_rfl) ?_ ?_ ?_
    ·refine A2 (fuel:=4) 3 [] Av ?_
     refine As [8,9,13,14,16] ?_
     exact A0 m1_11
    ·refine Cf (fuel:=4) 10 rfl ?_
     refine Ey (b:=2) (s:=s) (y:=⟨[(7,(.ptr 1 2)),(9,(.str s)),(13,(.map 2)),(14,(.str s)),(16,(.agg [(.int .i64 o.id),(.bool o.own),(.int .i64 o.op),(.str o.evr)])),(15,(.own 4))],[(0,(.row [(.ptr 1 0)] 93)),(1,(.row [(.int .i64 kind),(.int .i64 count),(.map 2)] 136)),(2,(.mm (Ay ps) (some s) 138 4)),(4,(.grow ((Ay ps) s) 138 4))],5⟩) (by kernel_rfl) (by kernel_rfl) (by kernel_rfl) Tryz.underlying134 Tryz.underlying9 (fun _=>by kernel_rfl) (by kernel_rfl) ?_
     refine Bo ⟨rfl,?_⟩
     refine As [7,9,15,16] ?_
     exact A0 m1_13
    ·refine A2 (fuel:=4) 12 [] Av ?_
     refine As [7,9,13,14,17] ?_
     exact A0 m1_14
   ·refine Cf (fuel:=7) 10 rfl ?_
    refine Ey (b:=2) (s:=s) (y:=⟨[(2,(.ptr 0 0)),(9,(.str s)),(13,(.map 2)),(14,(.str s)),(16,(.agg [(.int .i64 o.id),(.bool o.own),(.int .i64 o.op),(.str o.evr)])),(15,(.own 4))],[(0,(.row [(.ptr 1 0)] 93)),(1,(.row [(.int .i64 kind),(.int .i64 count),(.map 2)] 136)),(2,(.mm (Ay ps) (some s) 138 4)),(4,(.grow ((Ay ps) s) 138 4))],5⟩) (by kernel_rfl) (by kernel_rfl) (by kernel_rfl) Tryz.underlying134 Tryz.underlying9 (fun _=>by kernel_rfl) (by kernel_rfl) ?_
    refine Bo ⟨rfl,?_⟩
    refine As [2,9,15,16] ?_
    refine Ca 0 12 (by kernel_rfl) ?_ ?_
    ·refine A2 (fuel:=6) 0 [] Av ?_
     refine As [5,9,15,16] ?_
     refine Ck (fuel:=4) [] [1,2] [7,9,15,16] Av ?_
     refine Ca 3 12 (by kernel_rfl) ?_ ?_
     ·refine A2 (fuel:=3) 3 [] Av ?_
      refine As [8,9,15,16] ?_
      exact A0 m1_7
     ·refine A2 (fuel:=3) 12 [] Av ?_
      refine As [7,9,15,17] ?_
      exact A0 m1_9
    ·refine A2 (fuel:=6) 12 [] Av ?_
     refine As [2,9,15,17] ?_
     refine Ca 0 13 (by kernel_rfl) ?_ ?_
     ·refine A2 (fuel:=5) 0 [] Av ?_
      refine As [5,9,15,17] ?_
      refine Ck (fuel:=3) [] [1,2] [7,9,15,17] Av ?_
      refine Ca 3 13 (by kernel_rfl) ?_ ?_
      ·refine A2 (fuel:=2) 3 [] Av ?_
       refine As [8,9,15,17] ?_
       exact A0 m1_3
      ·refine A2 (fuel:=2) 13 [] (hold (p:=((((Ay ps) s).length+1)*40≤140737488355328)) (by omega)) ?_
       refine As [7,9,18] ?_
       exact A0 m1_5
     ·refine A2 (fuel:=5) 13 [] (hold (p:=((((Ay ps) s).length+1)*40≤140737488355328)) (by omega)) ?_
      refine As [2,9,18] ?_
      refine Cq (fuel:=4) 0 [] Av ?_
      refine Ck (fuel:=2) [] [1,2] [7,9,18] Av ?_
      refine Cq (fuel:=1) 3 [] Av ?_
      refine As [8,9,18] ?_
      exact A0 m1_1
   ·refine A2 (fuel:=7) 12 [] Av ?_
    refine As [2,9,13,14,17] ?_
    exact A0 m1_20
  ·refine A2 (fuel:=8) 12 [] Av ?_
   refine As [2,9,12,14,17] ?_
   refine Ca 0 8 (by kernel_rfl) ?_ ?_
   ·refine A2 (fuel:=7) 0 [] Av ?_
    refine As [5,9,12,14,17] ?_
    exact A0 m1_21
   ·refine A2 (fuel:=7) 8 [] Av ?_
    refine As [2,9,13,14,17] ?_
    exact A0 m1_20
 ·refine A2 (fuel:=11) 12 [] Av ?_
  refine As [2,9,14,17] ?_
  refine Ca 0 5 (by kernel_rfl) ?_ ?_
  ·refine A2 (fuel:=10) 0 [] Av ?_
   refine As [2,5,9,14,17] ?_
   refine Ck (fuel:=8) [] [1,2] [2,7,9,14,17] Av ?_
   refine Ca 3 5 (by kernel_rfl) ?_ ?_
   ·refine A2 (fuel:=7) 3 [] Av ?_
    refine As [2,8,9,14,17] ?_
    exact A0 m1_18
   ·refine A2 (fuel:=7) 5 [] Av ?_
    refine As [7,9,10,14,17] ?_
    exact A0 m1_19
  ·refine A2 (fuel:=10) 5 [] Av ?_
   refine As [2,9,10,14,17] ?_
   refine Ck (fuel:=8) [] [6,7] [2,9,12,14,17] Av ?_
   refine Ca 0 8 (by kernel_rfl) ?_ ?_
   ·refine A2 (fuel:=7) 0 [] Av ?_
    refine As [5,9,12,14,17] ?_
    exact A0 m1_21
   ·refine A2 (fuel:=7) 8 [] Av ?_
    refine As [2,9,13,14,17] ?_
    exact A0 m1_20
theorem Q6p (st : PoolT) (hal : st.all.length ≤ 200) (hs : ∀ i, i < st.all.length → (nth st.all i).1.size ≤ 4194304) :
  FnV Tryz.prog 49 [(.fp (B8 st))] (.fp (D2 st)):=by
 refine A1 [.tmp 2] Tryz.func49 rfl Tryz.ntmps49 rfl rfl (fun B F hF=>?_)
 refine Aa [] [0] ?_
 refine Ab ?_
 refine Aa [] [0,14] ?_
 refine Dp (by kernel_rfl) ?_
 refine Ah ?_
 refine Ae [] [0,3] [] (hk 1 X0l (X7c st)<|hk 3 Qg (Q9 st)<|hk0) v0 c0 ?_
 refine Ab ?_
 refine Aa [] [0,3,25,26] ?_
 refine Ax ?_
 refine Q2y 0 138 4 (y:=⟨[(0,(.fp (B8 st))),(3,(.ptr 2 0)),(25,(.int .i64 ((st.all.length:Int)))),(26,(.int .i64 0))],[(0,(.mm (fun _=>[]) none 138 4)),(1,(.row [(.int .i64 st.kind),(.int .i64 ((st.all.length:Int))),(.map 0)] 136)),(2,(.row [(.ptr 1 0)] 93))],3⟩) (by kernel_rfl) ?_
 refine B4 (fun g y=>∃(i:Nat),i≤st.all.length∧y=⟨[(0,(.fp (B8 st))),(3,(.ptr 2 0)),(25,(.int .i64 ((st.all.length:Int)))),(26,(.int .i64 ((i:Int))))],[(0,(.mm (Ay (Bg st.all i)) none 138 4)),(1,(.row [(.int .i64 st.kind),(.int .i64 ((st.all.length:Int))),(.map 0)] 136)),(2,(.row [(.ptr 1 0)] 93))],3⟩∧g=st.all.length-i) [0,3,25,26] 3 _ (by omega) ⟨0,(by omega),(by kernel_rfl),rfl⟩ ?_
 rintro g1 y1 ⟨i,f1_1,rfl,rfl⟩
 refine Aa [] [0,3,25,26,27] ?_
 refine Ab ?_
 refine Ba (p:=(i:Int) < (st.all.length:Int)) (by kernel_rfl) (fun c1=>?_) (fun c1=>?_)
 ·have hpl:=Wo (l:=st.all) hs i (by omega)
  have hsz:=(nth st.all i).1.sizes
  have hsi:=hs i (by omega)
  have hpv:(nth st.all i).1.provides.length≤4194304:=by have:=Em (nth st.all i).1.provides;unfold PkgT.depSize at hsz;omega
  have hfl:(nth st.all i).1.files.length≤4194304:=by have:=Kk (nth st.all i).1.files;omega
  refine Ah ?_
  refine Ab ?_
  refine Ax ?_
  refine Aa [] [0,3,4,25,26] ?_
  refine Ae [] [0,3,4,5,25,26] [(9,5)] (hk 2 Ts (Uv st i (by omega) (hs i (by omega)))<|hk0) v0 c0 ?_
  refine Aa [] [0,3,4,5,8,25,26] ?_
  refine Ab ?_
  refine Ar ?_
  refine Bm 7 0 [] [0,3,4,5,8,25,26,37,39,43] [] hk0 v0 c0 ?_
  refine Q4 [2,1,0] (f:=100) (cap:=[(.ptr 2 0)]) (al:=[(.str (((nth st.all i).1).name)),(.agg [(.int .i64 ((i:Int))),(.bool true),(.int .i64 2),(.str (((nth st.all i).1).evr))])]) (al':=[(.str (((nth st.all i).1).name)),(.agg [(.int .i64 ((i:Int))),(.bool true),(.int .i64 2),(.str (((nth st.all i).1).evr))]),(.ptr 0 0)]) (r:=(.tup [])) (r':=(.tup [])) (s':=[(0,(.fp (B8 st))),(3,(.ptr 2 0)),(4,(.int .i64 ((i:Int)))),(5,(.fp (An ((nth st.all i).1)))),(8,(.fn 100 [] [(.ptr 2 0)])),(25,(.int .i64 ((st.all.length:Int)))),(26,(.int .i64 ((i:Int)))),(37,(.fn 100 [] [(.ptr 2 0)])),(39,(.str (((nth st.all i).1).name))),(43,(.agg [(.int .i64 ((i:Int))),(.bool true),(.int .i64 2),(.str (((nth st.all i).1).evr))])),(44,(.tup []))]) (H:=[(0,(.row [(.ptr 1 0)] 93)),(1,(.row [(.int .i64 st.kind),(.int .i64 ((st.all.length:Int))),(.map 2)] 136)),(2,(.mm (Ay (Bg st.all i)) none 138 4))]) (H':=[(0,(.row [(.ptr 1 0)] 93)),(1,(.row [(.int .i64 st.kind),(.int .i64 ((st.all.length:Int))),(.map 2)] 136)),(2,(.mm (Ay (Bg st.all i++[((nth st.all i).1.name,(⟨(i:Int),true,2,(nth st.all i).1.evr⟩:OfferT))])) none 138 4))]) (h2:=[(0,(.mm (Ay (Bg st.all i++[((nth st.all i).1.name,(⟨(i:Int),true,2,(nth st.all i).1.evr⟩:OfferT))])) none 138 4)),(1,(.row [(.int .i64 st.kind),(.int .i64 ((st.all.length:Int))),(.map 0)] 136)),(2,(.row [(.ptr 1 0)] 93))]) (by kernel_rfl) (by kernel_rfl) (by exact Tt) (by kernel_rfl) (by kernel_rfl) (by kernel_rfl) (by kernel_rfl) (by kernel_rfl) (Sb st.kind (st.all.length:Int) (Bg st.all i) ((nth st.all i).1.name) ⟨(i:Int),true,2,(nth st.all i).1.evr⟩ (Nat.le_trans (Pk _ _) (by first|(simp only[List.length_append];have:=Pb (i:=i) (p:=(nth st.all i).1) (j:=0);have:=Pa (i:=i) (p:=(nth st.all i).1) (j:=0);omega)|omega))) (by kernel_rfl) (by kernel_rfl) (by kernel_rfl) ?_
  refine Bo ?_
  refine Ab ?_
  refine Aa [] [0,3,4,5,8,25,26,46,47,48] ?_
  refine Ax ?_
  refine B4 (fun g y=>∃(j:Nat),j≤(nth st.all i).1.provides.length∧y=⟨[(0,(.fp (B8 st))),(3,(.ptr 2 0)),(4,(.int .i64 ((i:Int)))),(5,(.fp (An ((nth st.all i).1)))),(8,(.fn 100 [] [(.ptr 2 0)])),(25,(.int .i64 ((st.all.length:Int)))),(26,(.int .i64 ((i:Int)))),(46,(Af 5 Am (((nth st.all i).1).provides))),(47,(.int .i64 (((((nth st.all i).1).provides).length:Int)))),(48,(.int .i64 ((j:Int))))],[(0,(.mm (Ay (Bg st.all i++E4 i (nth st.all i).1 j)) none 138 4)),(1,(.row [(.int .i64 st.kind),(.int .i64 ((st.all.length:Int))),(.map 0)] 136)),(2,(.row [(.ptr 1 0)] 93))],4⟩∧g=(nth st.all i).1.provides.length-j) [0,3,4,5,8,25,26,46,47,48] 4 _ (by omega) ⟨0,(by omega),(by kernel_rfl),rfl⟩ ?_
  rintro g2 y2 ⟨j,f2_1,rfl,rfl⟩
  refine Aa [] [0,3,4,5,8,25,26,46,47,48,49] ?_
  refine Ab ?_
  refine Ba (p:=(j:Int) < ((((nth st.all i).1).provides).length:Int)) (by kernel_rfl) (fun c2=>?_) (fun c2=>?_)
  ·refine Ah ?_
   refine Ab ?_
   refine Ax ?_
   refine Ae [] [0,3,4,5,8,10,25,26,46,47,48] [] hk0 v0 (cc 0 (p:=(0≤(j:Int)∧j < (((nth st.all i).1).provides).length)) (by omega)<|c0) ?_
   refine Ar ?_
   refine Bm 9 0 [] [0,3,4,5,8,25,26,46,47,48,52,54,60] [(0,10)] hk0 v0 c0 ?_
   refine Q4 [2,1,0] (f:=100) (cap:=[(.ptr 2 0)]) (al:=[(.str ((nth (((nth st.all i).1).provides) j).name)),(.agg [(.int .i64 ((i:Int))),(.bool false),(.int .i64 ((nth (((nth st.all i).1).provides) j).op)),(.str ((nth (((nth st.all i).1).provides) j).evr))])]) (al':=[(.str ((nth (((nth st.all i).1).provides) j).name)),(.agg [(.int .i64 ((i:Int))),(.bool false),(.int .i64 ((nth (((nth st.all i).1).provides) j).op)),(.str ((nth (((nth st.all i).1).provides) j).evr))]),(.ptr 0 0)]) (r:=(.tup [])) (r':=(.tup [])) (s':=[(0,(.fp (B8 st))),(3,(.ptr 2 0)),(4,(.int .i64 ((i:Int)))),(5,(.fp (An ((nth st.all i).1)))),(8,(.fn 100 [] [(.ptr 2 0)])),(25,(.int .i64 ((st.all.length:Int)))),(26,(.int .i64 ((i:Int)))),(46,(Af 5 Am (((nth st.all i).1).provides))),(47,(.int .i64 (((((nth st.all i).1).provides).length:Int)))),(48,(.int .i64 ((j:Int)))),(52,(.fn 100 [] [(.ptr 2 0)])),(54,(.str ((nth (((nth st.all i).1).provides) j).name))),(60,(.agg [(.int .i64 ((i:Int))),(.bool false),(.int .i64 ((nth (((nth st.all i).1).provides) j).op)),(.str ((nth (((nth st.all i).1).provides) j).evr))])),(61,(.tup []))]) (H:=[(0,(.row [(.ptr 1 0)] 93)),(1,(.row [(.int .i64 st.kind),(.int .i64 ((st.all.length:Int))),(.map 2)] 136)),(2,(.mm (Ay (Bg st.all i++E4 i (nth st.all i).1 j)) none 138 4))]) (H':=[(0,(.row [(.ptr 1 0)] 93)),(1,(.row [(.int .i64 st.kind),(.int .i64 ((st.all.length:Int))),(.map 2)] 136)),(2,(.mm (Ay (Bg st.all i++E4 i (nth st.all i).1 j++[((nth (nth st.all i).1.provides j).name,(⟨(i:Int),false,(nth (nth st.all i).1.provides j).op,(nth (nth st.all i).1.provides j).evr⟩:OfferT))])) none 138 4))]) (h2:=[(0,(.mm (Ay (Bg st.all i++E4 i (nth st.all i).1 j++[((nth (nth st.all i).1.provides j).name,(⟨(i:Int),false,(nth (nth st.all i).1.provides j).op,(nth (nth st.all i).1.provides j).evr⟩:OfferT))])) none 138 4)),(1,(.row [(.int .i64 st.kind),(.int .i64 ((st.all.length:Int))),(.map 0)] 136)),(2,(.row [(.ptr 1 0)] 93))]) (by kernel_rfl) (by kernel_rfl) (by exact Tt) (by kernel_rfl) (by kernel_rfl) (by kernel_rfl) (by kernel_rfl) (by kernel_rfl) (Sb st.kind (st.all.length:Int) (Bg st.all i++E4 i (nth st.all i).1 j) ((nth (nth st.all i).1.provides j).name) ⟨(i:Int),false,(nth (nth st.all i).1.provides j).op,(nth (nth st.all i).1.provides j).evr⟩ (Nat.le_trans (Pk _ _) (by first|(simp only[List.length_append];have:=Pb (i:=i) (p:=(nth st.all i).1) (j:=j);have:=Pa (i:=i) (p:=(nth st.all i).1) (j:=j);omega)|omega))) (by kernel_rfl) (by kernel_rfl) (by kernel_rfl) ?_
   refine Bo ?_
   refine Ar ?_
   refine Aw 0 [] [0,3,4,5,8,25,26,46,47,48] [] hk0 v0 (cc 0 (p:=(-9223372036854775808≤(j:Int)+1∧(j:Int)+1≤9223372036854775807)) (by omega)<|c0) ?_
   refine⟨by kernel_rfl,_,?_,j+1,?_,(Eq.trans (b:=(⟨[(0,(.fp (B8 st))),(3,(.ptr 2 0)),(4,(.int .i64 ((i:Int)))),(5,(.fp (An ((nth st.all i).1)))),(8,(.fn 100 [] [(.ptr 2 0)])),(25,(.int .i64 ((st.all.length:Int)))),(26,(.int .i64 ((i:Int)))),(46,(Af 5 Am (((nth st.all i).1).provides))),(47,(.int .i64 (((((nth st.all i).1).provides).length:Int)))),(48,(.int .i64 ((j:Int)+1)))],[(0,(.mm (Ay (Bg st.all i++E4 i (nth st.all i).1 j++[((nth (nth st.all i).1.provides j).name,(⟨(i:Int),false,(nth (nth st.all i).1.provides j).op,(nth (nth st.all i).1.provides j).evr⟩:OfferT))])) none 138 4)),(1,(.row [(.int .i64 st.kind),(.int .i64 ((st.all.length:Int))),(.map 0)] 136)),(2,(.row [(.ptr 1 0)] 93))],4⟩:St)) (by kernel_rfl) (by rw[Q6n (by omega),←List.append_assoc]<;>kernel_rfl)),rfl⟩
   ·omega
   ·omega
  ·refine Bq ?_
   refine Aa [] [0,3,4,8,25,26,64,65,66] ?_
   refine Ax ?_
   refine B4 (fun g y=>∃(j:Nat),j≤(nth st.all i).1.files.length∧y=⟨[(0,(.fp (B8 st))),(3,(.ptr 2 0)),(4,(.int .i64 ((i:Int)))),(8,(.fn 100 [] [(.ptr 2 0)])),(25,(.int .i64 ((st.all.length:Int)))),(26,(.int .i64 ((i:Int)))),(64,(B1 (((nth st.all i).1).files))),(65,(.int .i64 (((((nth st.all i).1).files).length:Int)))),(66,(.int .i64 ((j:Int))))],[(0,(.mm (Ay (Bg st.all i++Ej i (nth st.all i).1 j)) none 138 4)),(1,(.row [(.int .i64 st.kind),(.int .i64 ((st.all.length:Int))),(.map 0)] 136)),(2,(.row [(.ptr 1 0)] 93))],4⟩∧g=(nth st.all i).1.files.length-j) [0,3,4,8,25,26,64,65,66] 4 _ (by omega) ⟨0,(by omega),(Eq.trans (b:=(⟨[(0,(.fp (B8 st))),(3,(.ptr 2 0)),(4,(.int .i64 ((i:Int)))),(8,(.fn 100 [] [(.ptr 2 0)])),(25,(.int .i64 ((st.all.length:Int)))),(26,(.int .i64 ((i:Int)))),(64,(B1 (((nth st.all i).1).files))),(65,(.int .i64 (((((nth st.all i).1).files).length:Int)))),(66,(.int .i64 0))],[(0,(.mm (Ay (Bg st.all i++E4 i (nth st.all i).1 j)) none 138 4)),(1,(.row [(.int .i64 st.kind),(.int .i64 ((st.all.length:Int))),(.map 0)] 136)),(2,(.row [(.ptr 1 0)] 93))],4⟩:St)) (by kernel_rfl) (by rw[show Ej i (nth st.all i).1 0=E4 i (nth st.all i).1 (nth st.all i).1.provides.length from by simp[Ej],show(nth st.all i).1.provides.length=j from by omega]<;>kernel_rfl)),rfl⟩ ?_
   rintro g3 y3 ⟨j,f3_1,rfl,rfl⟩
   refine Aa [] [0,3,4,8,25,26,64,65,66,67] ?_
   refine Ab ?_
   refine Ba (p:=(j:Int) < ((((nth st.all i).1).files).length:Int)) (by kernel_rfl) (fun c3=>?_) (fun c3=>?_)
   ·refine Ah ?_
    refine Ab ?_
    refine Ax ?_
    refine Ae [] [0,3,4,8,12,25,26,64,65,66] [] hk0 v0 (cc 0 (p:=(0≤(j:Int)∧j < (((nth st.all i).1).files).length)) (by omega)<|c0) ?_
    refine Ar ?_
    refine Bm 4 0 [] [0,3,4,8,25,26,64,65,66,70,71,73] [] hk0 v0 c0 ?_
    refine Q4 [2,1,0] (f:=100) (cap:=[(.ptr 2 0)]) (al:=[(.str (nth (((nth st.all i).1).files) j)),(.agg [(.int .i64 ((i:Int))),(.bool false),(.int .i64 0),(.str [])])]) (al':=[(.str (nth (((nth st.all i).1).files) j)),(.agg [(.int .i64 ((i:Int))),(.bool false),(.int .i64 0),(.str [])]),(.ptr 0 0)]) (r:=(.tup [])) (r':=(.tup [])) (s':=[(0,(.fp (B8 st))),(3,(.ptr 2 0)),(4,(.int .i64 ((i:Int)))),(8,(.fn 100 [] [(.ptr 2 0)])),(25,(.int .i64 ((st.all.length:Int)))),(26,(.int .i64 ((i:Int)))),(64,(B1 (((nth st.all i).1).files))),(65,(.int .i64 (((((nth st.all i).1).files).length:Int)))),(66,(.int .i64 ((j:Int)))),(70,(.fn 100 [] [(.ptr 2 0)])),(71,(.str (nth (((nth st.all i).1).files) j))),(73,(.agg [(.int .i64 ((i:Int))),(.bool false),(.int .i64 0),(.str [])])),(74,(.tup []))]) (H:=[(0,(.row [(.ptr 1 0)] 93)),(1,(.row [(.int .i64 st.kind),(.int .i64 ((st.all.length:Int))),(.map 2)] 136)),(2,(.mm (Ay (Bg st.all i++Ej i (nth st.all i).1 j)) none 138 4))]) (H':=[(0,(.row [(.ptr 1 0)] 93)),(1,(.row [(.int .i64 st.kind),(.int .i64 ((st.all.length:Int))),(.map 2)] 136)),(2,(.mm (Ay (Bg st.all i++Ej i (nth st.all i).1 j++[(nth (nth st.all i).1.files j,(⟨(i:Int),false,0,[]⟩:OfferT))])) none 138 4))]) (h2:=[(0,(.mm (Ay (Bg st.all i++Ej i (nth st.all i).1 j++[(nth (nth st.all i).1.files j,(⟨(i:Int),false,0,[]⟩:OfferT))])) none 138 4)),(1,(.row [(.int .i64 st.kind),(.int .i64 ((st.all.length:Int))),(.map 0)] 136)),(2,(.row [(.ptr 1 0)] 93))]) (by kernel_rfl) (by kernel_rfl) (by exact Tt) (by kernel_rfl) (by kernel_rfl) (by kernel_rfl) (by kernel_rfl) (by kernel_rfl) (Sb st.kind (st.all.length:Int) (Bg st.all i++Ej i (nth st.all i).1 j) (nth (nth st.all i).1.files j) ⟨(i:Int),false,0,[]⟩ (Nat.le_trans (Pk _ _) (by first|(simp only[List.length_append];have:=Pb (i:=i) (p:=(nth st.all i).1) (j:=j);have:=Pa (i:=i) (p:=(nth st.all i).1) (j:=j);omega)|omega))) (by kernel_rfl) (by kernel_rfl) (by kernel_rfl) ?_
    refine Bo ?_
    refine Ar ?_
    refine Aw 0 [] [0,3,4,8,25,26,64,65,66] [] hk0 v0 (cc 0 (p:=(-9223372036854775808≤(j:Int)+1∧(j:Int)+1≤9223372036854775807)) (by omega)<|c0) ?_
    refine⟨by kernel_rfl,_,?_,j+1,?_,(Eq.trans (b:=(⟨[(0,(.fp (B8 st))),(3,(.ptr 2 0)),(4,(.int .i64 ((i:Int)))),(8,(.fn 100 [] [(.ptr 2 0)])),(25,(.int .i64 ((st.all.length:Int)))),(26,(.int .i64 ((i:Int)))),(64,(B1 (((nth st.all i).1).files))),(65,(.int .i64 (((((nth st.all i).1).files).length:Int)))),(66,(.int .i64 ((j:Int)+1)))],[(0,(.mm (Ay (Bg st.all i++Ej i (nth st.all i).1 j++[(nth (nth st.all i).1.files j,(⟨(i:Int),false,0,[]⟩:OfferT))])) none 138 4)),(1,(.row [(.int .i64 st.kind),(.int .i64 ((st.all.length:Int))),(.map 0)] 136)),(2,(.row [(.ptr 1 0)] 93))],4⟩:St)) (by kernel_rfl) (by rw[Q6m (by omega),←List.append_assoc]<;>kernel_rfl)),rfl⟩
    ·omega
    ·omega
   ·refine Bq ?_
    refine Ar ?_
    refine Aw 0 [] [0,3,25,26] [] hk0 v0 (cc 0 (p:=(-9223372036854775808≤(i:Int)+1∧(i:Int)+1≤9223372036854775807)) (by omega)<|c0) ?_
    refine⟨by kernel_rfl,_,?_,i+1,?_,(Eq.trans (b:=(⟨[(0,(.fp (B8 st))),(3,(.ptr 2 0)),(25,(.int .i64 ((st.all.length:Int)))),(26,(.int .i64 ((i:Int)+1)))],[(0,(.mm (Ay (Bg st.all i++Ej i (nth st.all i).1 j)) none 138 4)),(1,(.row [(.int .i64 st.kind),(.int .i64 ((st.all.length:Int))),(.map 0)] 136)),(2,(.row [(.ptr 1 0)] 93))],3⟩:St)) (by kernel_rfl) (by rw[Wn,show Lc i (nth st.all i).1=Ej i (nth st.all i).1 j from by unfold Lc;rw[show(nth st.all i).1.files.length=j from by omega]]<;>kernel_rfl)),rfl⟩
    ·omega
    ·omega
 ·refine Bq ?_
  refine Ab ?_
  refine Ar ?_
  refine H1 1 2 (y:=⟨[(0,(.fp (B8 st))),(3,(.ptr 2 0)),(25,(.int .i64 ((st.all.length:Int)))),(26,(.int .i64 ((i:Int)))),(27,(.bool (decide ((i:Int) < (st.all.length:Int)))))],[(1,(.row [(.int .i64 st.kind),(.int .i64 ((st.all.length:Int))),(.smap (.slice none 0 0) (fun kq => .row 4 ((Ay (Bg st.all i)) kq).length (fun ix=>((Ay (Bg st.all i)) kq).getD ix Bl)))] 136)),(2,(.row [(.ptr 1 0)] 93))],3⟩) (by kernel_rfl) ?_
  refine Ez [] [2] ?_
  refine Ac ?_
  refine RK wR [(.fp (.agg [(.int .i64 st.kind),(.int .i64 ((st.all.length:Int))),(.smap (.slice none 0 0) (fun kq => .row 4 ((Ay (Bg st.all i)) kq).length (fun ix=>((Ay (Bg st.all i)) kq).getD ix Bl)))]))] ?_
  rw[show i=st.all.length from by omega]
  exact Same.of_eq rfl
end Sv
end
section
open Go Go.RowKit
namespace Sv
theorem Y0 {φ:Phi}:∀{l:List Int} {vs:List Value},VRl φ (l.map (AV.int .i64)) vs→vs=l.map (Value.int .i64)
  |[],vs,h=>h.nil_inv
  |x::l,vs,h=>by
    obtain⟨v,vs',rfl,h1,h2⟩:=h.cons_inv
    simp only[VR] at h1
    rw[Y0 h2,h1];rfl
theorem Vf {φ:Phi}:∀l:List Int,VRl φ (l.map (AV.int .i64)) (l.map (Value.int .i64))
  |[] => .nil
  |x::l => .cons (by simp only[VR]) (Vf l)
theorem Zw (l:List Int):(l.map (Value.int .i64)).flatMap (fun u=>u.cells.toList)=l.map (Value.int .i64):=by
  induction l with
  |nil=>rfl
  |cons x l ih=>rw[List.map_cons,List.flatMap_cons,ih];first|done|rfl
theorem X3o (l:List Int):∀u∈l.map (Value.int .i64),u.cells.size=1∧∀c∈u.cells.toList,c.oneCell'=true:=by
  intro u hu
  obtain⟨x,_,rfl⟩:=List.mem_map.1 hu
  exact⟨rfl,fun c hc=>by simp[Value.cells] at hc;subst hc;rfl⟩
theorem Rel.rebaseI {B:Bas} {φ:Phi} {h:AH} {w:World} (r:Rel B φ h w):Rel (Ew φ h w) φ h w :=
  ⟨⟨rfl,rfl,rfl,Nat.le_refl _,fun _ _=>rfl⟩,r.fro,fun b o e=>by have:=r.obj b o e;cases o<;>exact this,r.sep,fun b o k e i=>⟨fun q=>q.2 b o e i,(r.gf b o k e i).2⟩⟩
theorem Q1g (zs:List Int):(Lib.compact zs).length≤zs.length:=by
  have:∀m,(Lib.compactUpTo zs.toArray m).length≤m:=by
    intro m
    induction m with
    |zero=>simp[Lib.compactUpTo]
    |succ m ih =>
      rw[Lib.compactUpTo_succ,List.length_append]
      split<;>simp<;>omega
  exact this _
theorem X3h (l : List Int) (hl : l.length ≤ 4611686018427) :
    Fc Tryz.prog 174 [.own 0] [(0,.grow (l.map (AV.int .i64)) 3 1)] 1 (.own 0) [(0,.grow ((Lib.compact l).map (AV.int .i64)) 3 1)]:=by
  intro B0 φ w vs r hv
  obtain⟨v,rfl,hv1⟩:=hv.single_inv
  simp only[VR] at hv1
  obtain⟨v0,us,q1,q2,q3,q4⟩:=r.obj 0 _ rfl
  rw[hv1.1] at q1;cases q1
  have hu:=Y0 q3
  subst hu
  rw[Zw,List.length_map] at q2
  have hr:=r.rebaseI
  rcases q2.2 with⟨rfl,hn⟩|⟨g,cap,cur,rfl,hg1,hg2,hg3,hg4,hg5,hg6⟩
  · have hl0:l=[]:=List.length_eq_zero_iff.1 hn
    subst hl0
    refine(Tryz.slices_Compact_int_empty none 0 w).mono ?_
    rintro e w' ⟨he,rfl⟩
    exact⟨_,he,φ,hr,by simp only[VR];exact hv1,fun _ _ _ e=>e,fun _ _ e=>e,fun _ _ e => .inl e⟩
  · have hh:Go.Sort.Holds (Value.int .i64) w g 0 l.toArray:=holds_of_blockI hg2 (by simpa using hg6)
    refine(Tryz.slices_Compact_int g 0 cap l w hh (by omega) hg3).mono ?_
    rintro e w' ⟨he,n,rfl⟩
    have hgr:=grownBy_sortedI (w:=w) (g:=g) (n:=n) (os := #[]) (Lib.compact l++List.replicate (l.length-(Lib.compact l).length) 0).toArray
    rw[Go.Sort.grow_empty] at hgr
    have hle:=Q1g l
    have hts:(Lib.compact l++List.replicate (l.length-(Lib.compact l).length) (0:Int)).length=l.length:=by simp;omega
    have ho:=ownsRow_sortedI (n:=n) (os := #[]) (base:=0) (ts:=Lib.compact l++List.replicate (l.length-(Lib.compact l).length) 0) (ss:=l) hts hg1 hg2 hg3 hg4 (by simpa using hg5)
    rw[Go.Sort.grow_empty] at ho
    refine⟨_,he,⟨φ.m,fun i=>if i=0 then some (.slice (some ⟨g,0,none⟩) (Lib.compact l).length cap) else φ.s i,φ.f⟩,?_,by simp only[VR];exact⟨rfl,_,_,_,rfl⟩,fun _ _ _ e=>e,fun _ _ e=>e,fun _ _ e => .inl e⟩
    have ht:Turn φ ⟨φ.m,fun i=>if i=0 then some (.slice (some ⟨g,0,none⟩) (Lib.compact l).length cap) else φ.s i,φ.f⟩ 0:=⟨fun _=>rfl,fun c hc=>if_neg hc,fun _ _ e=>e⟩
    refine Rel.grown (v':=.slice (some ⟨g,0,none⟩) (Lib.compact l).length cap) (es':=(Lib.compact l).map (AV.int .i64)) hr (b:=0) rfl hv1.1 ht rfl rfl hgr (.inl rfl) (fun k hk=>by cases hk;exact Nat.lt_of_lt_of_le (C9 hg2) hgr.size) ⟨_,(Lib.compact l).map (Value.int .i64),rfl,?_,Vf _,X3o _⟩
    rw[Zw,List.length_map]
    refine⟨by simp,.inr ⟨g,cap,Go.Sort.putCells (Value.int .i64) 0 (Lib.compact l++List.replicate (l.length-(Lib.compact l).length) 0).toArray cur,rfl,hg1,?_,by omega,hg4,by simp[Go.Sort.putCells,hg5],?_⟩⟩
    · have:=heap_sortedI (w:=w) (g:=g) (n:=n) (os := #[]) (Lib.compact l++List.replicate (l.length-(Lib.compact l).length) 0).toArray hg2
      rw[Go.Sort.grow_empty] at this;exact this
    · have:=take_putCellsI cur (Lib.compact l++List.replicate (l.length-(Lib.compact l).length) 0) (by rw[hts,hg5];omega)
      have:=congrArg (List.take (Lib.compact l).length) this
      rw[List.take_take,Nat.min_eq_left (by rw[hts];exact hle),List.map_append,List.take_append_of_le_length (by simp),List.take_of_length_le (l:=(Lib.compact l).map (Value.int .i64)) (by simp)] at this
      rw[Nat.mul_one];exact this
end Sv
end
section
open Go Go.RowKit
namespace Sv
attribute [local irreducible] SW SO Bh
set_option maxHeartbeats 1000000
set_option maxRecDepth 100000
theorem X13:Aj Tryz.prog 173:=Ap Tryz.func173 (by kernel_rfl) rfl
theorem X2g:Aj Tryz.prog 140:=Ap Tryz.func140 (by kernel_rfl) rfl
theorem X12:Aj Tryz.prog 174:=Ap Tryz.func174 (by kernel_rfl) rfl
theorem X1x:Aj Tryz.prog 187:=Ap Tryz.func187 (by kernel_rfl) rfl
theorem X2s:Aj Tryz.prog 104:=Ap Tryz.func104 (by kernel_rfl) rfl
theorem Q0b:Aj Tryz.prog 52:=Ap Tryz.func52 (by kernel_rfl) rfl
theorem Q7l (ps:List (List UInt8 × OfferT)) (s:List UInt8):Imp (.row 4 (Ay ps s).length (fun i=>(Ay ps s).getD i Bl)) (Af 4 Id (B6 ps s)):=Imp.list (f:=Id) (List.length_map _)
def Kw (m:Int→Int→List UInt8→Int→List UInt8→Bool × Int):Prop:=∀k op a o b,a.length≤4194304→b.length≤4194304→FnV Tryz.prog 187 [.int .i64 k,.int .i64 op,.str a,.int .i64 o,.str b] (.tup [.bool (m k op a o b).1,.int .i64 (m k op a o b).2])
def Nh (m:Int→Int→List UInt8→Int→List UInt8→Bool × Int) (k:Int) (d:DepT) (o:OfferT):Bool:=if d.op=0∨o.op=0 then decide (d.op=0) else (m k d.op d.evr o.op o.evr).1
def IdxOk (st:PoolT):Prop:=st.all.length≤200∧∀i,i < st.all.length→(nth st.all i).1.size≤4194304
theorem IdxOk.len {st:PoolT} (h:IdxOk st) (s:List UInt8):(B6 (Bg st.all st.all.length) s).length≤2147483648:=by
 have h1:=Wo h.2 st.all.length (Nat.le_refl _)
 have h2:=Pk (Bg st.all st.all.length) s
 have h3:(Ay (Bg st.all st.all.length) s).length=(B6 (Bg st.all st.all.length) s).length:=List.length_map _
 have:=h.1
 omega
theorem Hp {α:Type} [Inhabited α] {l:List α} {j:Nat} (h:j < l.length):nth l j=l[j]:=by simp[nth,h]
theorem Q6l {st:PoolT} (h:IdxOk st) {q:List UInt8 × OfferT} (hq:q∈Bg st.all st.all.length):q.2.evr.length≤4194304:=by
 unfold Bg at hq
 obtain⟨i,hi,hq⟩:=List.mem_flatMap.1 hq
 have hi:i < st.all.length:=by simpa using hi
 have h1:=h.2 i hi
 have h2:=(nth st.all i).1.sizes
 unfold Lc Ej E4 at hq
 simp only[List.take_length,List.cons_append,List.mem_cons,List.mem_append,List.mem_map] at hq
 rcases hq with rfl|⟨d,hd,rfl⟩|⟨x,hx,rfl⟩
 ·show(nth st.all i).1.evr.length≤_;omega
 ·obtain⟨j,hj,rfl⟩:=List.getElem_of_mem hd
  have h3:=It (l:=(nth st.all i).1.provides) (i:=j) hj
  have h4:=Gu (nth (nth st.all i).1.provides j)
  have h5:argsSize (nth st.all i).1.provides≤(nth st.all i).1.depSize:=by unfold PkgT.depSize;omega
  have h6:nth (nth st.all i).1.provides j=(nth st.all i).1.provides[j]:=Hp hj
  rw[h6] at h3 h4
  show(nth st.all i).1.provides[j].evr.length≤_
  omega
 ·exact Nat.zero_le _
theorem IdxOk.evr {st:PoolT} (h:IdxOk st) {s:List UInt8} {i:Nat} (hi:i < (B6 (Bg st.all st.all.length) s).length):(nth (B6 (Bg st.all st.all.length) s) i).evr.length≤4194304:=by
 have hm:nth (B6 (Bg st.all st.all.length) s) i∈B6 (Bg st.all st.all.length) s:=by
  have:nth (B6 (Bg st.all st.all.length) s) i=(B6 (Bg st.all st.all.length) s)[i]:=by simp[nth,hi]
  rw[this];exact List.getElem_mem hi
 obtain⟨q,hq,e⟩:=List.mem_map.1 hm
 rw[←e];exact Q6l h (List.mem_filter.1 hq).1
def Kh (m:Int→Int→List UInt8→Int→List UInt8→Bool × Int) (st:PoolT) (d:DepT) (own:Bool) (o:OfferT):Bool:=(o.own||!own)&&Nh m st.kind d o
def De (m:Int→Int→List UInt8→Int→List UInt8→Bool × Int) (st:PoolT) (d:DepT) (own:Bool) (i:Nat):List Int:=(((B6 (Bg st.all st.all.length) d.name).take i).filter (Kh m st d own)).map fun o=>o.id
def Ig (m:Int→Int→List UInt8→Int→List UInt8→Bool × Int) (st:PoolT) (d:DepT) (own:Bool):List Int:=Lib.compact (De m st d own (B6 (Bg st.all st.all.length) d.name).length)
theorem Zg {m:Int→Int→List UInt8→Int→List UInt8→Bool × Int} {st:PoolT} {d:DepT} {own:Bool} {i:Nat} (h:i < (B6 (Bg st.all st.all.length) d.name).length):De m st d own (i+1)=De m st d own i++(if Kh m st d own (nth (B6 (Bg st.all st.all.length) d.name) i)=true then [(nth (B6 (Bg st.all st.all.length) d.name) i).id] else []):=by
 unfold De
 rw[List.take_add_one,List.getElem?_eq_getElem h,List.filter_append,List.map_append]
 congr 1
 have:nth (B6 (Bg st.all st.all.length) d.name) i=(B6 (Bg st.all st.all.length) d.name)[i]:=by simp[nth,h]
 rw[this]
 cases hc:Kh m st d own (B6 (Bg st.all st.all.length) d.name)[i]<;>simp[hc]
theorem S4 {m:Int→Int→List UInt8→Int→List UInt8→Bool × Int} {st:PoolT} {d:DepT} {own:Bool} {i:Nat}:(De m st d own i).length≤(B6 (Bg st.all st.all.length) d.name).length:=by
 unfold De
 rw[List.length_map]
 exact Nat.le_trans (List.length_filter_le _ _) (by simp;omega)
theorem Q9l {m:Int→Int→List UInt8→Int→List UInt8→Bool × Int} {st:PoolT} {d:DepT} {own:Bool} {i:Nat} (h:i < (B6 (Bg st.all st.all.length) d.name).length) (hc:Kh m st d own (nth (B6 (Bg st.all st.all.length) d.name) i)=true):(De m st d own (i+1)).map (AV.int .i64)=(De m st d own i).map (AV.int .i64)++[.int .i64 (nth (B6 (Bg st.all st.all.length) d.name) i).id]:=by
 rw[Zg h,if_pos hc,List.map_append];rfl
theorem Q9m {m:Int→Int→List UInt8→Int→List UInt8→Bool × Int} {st:PoolT} {d:DepT} {own:Bool} {i:Nat} (h:i < (B6 (Bg st.all st.all.length) d.name).length) (hc:Kh m st d own (nth (B6 (Bg st.all st.all.length) d.name) i)=false):De m st d own (i+1)=De m st d own i:=by
 rw[Zg h,if_neg (by rw[hc];simp),List.append_nil]
theorem Q99 (m : Int → Int → List UInt8 → Int → List UInt8 → Bool × Int) (hM : Kw m) (st : PoolT) (d : DepT) (o : OfferT) (hd : d.size ≤ 4194304) (ho : o.evr.length ≤ 4194304) :
  FnV Tryz.prog 173 [(.fp (D2 st)),(.agg [(.int .i64 d.kind),(.str d.name),(.int .i64 d.op),(.str d.evr),(.row 5 d.args.length (depAt d.args))]),(.agg [(.int .i64 o.id),(.bool o.own),(.int .i64 o.op),(.str o.evr)])] (.bool (Nh m st.kind d o)):=by
 have hda:=Gu d
 refine A1 [.tmp 6] Tryz.func173 rfl Tryz.ntmps173 rfl rfl (fun B F hF=>?_)
 refine Ae [] [0,4,5] [(1,4),(2,5)] hk0 v0 c0 ?_
 refine Ab ?_
 obtain⟨b1,hb1⟩:∃b,b=(decide (d.op=0)):=⟨_,rfl⟩
 refine Ae (CS:=[(5,((!b1)=true→(!b1)=true)),(6,((!b1)=true→(!b1)=true)),(7,(b1=false→(!b1)=true))]) [13,14,15] [0,4,5,16] [] hk0 (vk 4 12 (a:=.bool (decide (d.op=0))) (b:=.bool b1) (Imp.of_eq (by rw[hb1]))<|v0) (by refine cc _ ?_<|cc _ ?_<|cc _ ?_ c0<;>simp) ?_
 refine Be (q:=b1||(decide (o.op=0))) (by kernel_rfl) (fun c1=>?_) (fun c1=>?_)
 ·subst hb1
  try simp only[Ao] at c1
  refine Aa [] [6] ?_
  refine Ac ?_
  refine RK wR [(.bool (decide (d.op=0)))] ?_
  exact Same.of_eq (by simp only[Ai];unfold Nh;rw[if_pos (by simpa using c1)])
 ·subst hb1
  try simp only[Ao] at c1
  refine Ah ?_
  refine Cv [] [7] [] (hk 12 X1x (hM st.kind d.op d.evr o.op o.evr (by omega) ho)<|hk0) v0 c0 ?_
  refine Aa [] [6] ?_
  refine Ac ?_
  refine RK wR [(.bool ((m st.kind d.op d.evr o.op o.evr).1))] ?_
  exact Same.of_eq (by simp only[Ai];unfold Nh;rw[if_neg (by simpa using c1)])
theorem Q72 (m : Int → Int → List UInt8 → Int → List UInt8 → Bool × Int) (hM : Kw m) (st : PoolT) (hi : IdxOk st) (d : DepT) (own : Bool) (hd : d.size ≤ 4194304) :
  FnV Tryz.prog 140 [(.fp (D2 st)),(.agg [(.int .i64 d.kind),(.str d.name),(.int .i64 d.op),(.str d.evr),(.row 5 d.args.length (depAt d.args))]),(.bool own)] (C4 (Ig m st d own)):=by
 have hlg:(Ay (Bg st.all st.all.length) d.name).length=(B6 (Bg st.all st.all.length) d.name).length:=List.length_map _
 have hll:=hi.len d.name
 refine A1 [.tmp 6] Tryz.func140 rfl Tryz.ntmps140 rfl rfl (fun B F hF=>?_)
 refine Ae [] [0,2,4] [(1,4)] hk0 v0 c0 ?_
 refine Aa [] [0,2,4,7] ?_
 refine Ab ?_
 refine Ab ?_
 refine Iz (by kernel_rfl) (fun F1 hF1=>?_)
 refine Ck (fuel:=2) [] [0,1,2,3,4,5,8] [0,2,4,7,13,15,18] Av ?_
 refine Ep (fuel:=1) 6 (by kernel_rfl) ?_
 refine Cf (fuel:=1) 6 rfl ?_
 refine X6c (s:=d.name) (z:=.slice none 0 0) (G:=fun s => .row 4 (Ay (Bg st.all st.all.length) s).length (fun i=>(Ay (Bg st.all st.all.length) s).getD i Bl)) (s':=[(0,(.fp (D2 st))),(2,(.bool own)),(4,(.fp (.agg [(.int .i64 d.kind),(.str d.name),(.int .i64 d.op),(.str d.evr),(.row 5 d.args.length (depAt d.args))]))),(7,.nils),(13,(.smap (.slice none 0 0) (fun s => .row 4 (Ay (Bg st.all st.all.length) s).length (fun i=>(Ay (Bg st.all st.all.length) s).getD i Bl)))),(15,(.str d.name)),(18,(.int .i64 0)),(16,(.row 4 (Ay (Bg st.all st.all.length) d.name).length (fun i=>(Ay (Bg st.all st.all.length) d.name).getD i Bl)))]) (by kernel_rfl) (by kernel_rfl) (by kernel_rfl) Tryz.underlying134 Tryz.underlying9 (fun _=>by kernel_rfl) (by kernel_rfl) ?_
 refine Bo ⟨rfl,?_⟩
 refine Ck (fuel:=0) [] [7] [0,2,4,7,16,17,18] Av ?_
 refine As [0,2,4,7,16,17,18] ?_
 refine Hd (by kernel_rfl) ?_
 refine Ax ?_
 refine Um 16 (Af 4 Id (B6 (Bg st.all st.all.length) d.name)) (by kernel_rfl) (Q7l (Bg st.all st.all.length) d.name) ?_
 refine Ul 3 1 7 (y:=⟨[(0,(.fp (D2 st))),(2,(.bool own)),(4,(.fp (.agg [(.int .i64 d.kind),(.str d.name),(.int .i64 d.op),(.str d.evr),(.row 5 d.args.length (depAt d.args))]))),(7,(.own 1)),(16,(Af 4 Id (B6 (Bg st.all st.all.length) d.name))),(17,(.int .i64 (((Ay (Bg st.all st.all.length) d.name).length:Int)))),(18,(.int .i64 0))],[(1,(.grow [] 3 1))],2⟩) (by kernel_rfl) (by kernel_rfl) ?_
 refine B4 (fun g y=>∃(i:Nat),i≤(B6 (Bg st.all st.all.length) d.name).length∧y=⟨[(0,(.fp (D2 st))),(2,(.bool own)),(4,(.fp (.agg [(.int .i64 d.kind),(.str d.name),(.int .i64 d.op),(.str d.evr),(.row 5 d.args.length (depAt d.args))]))),(7,(.own 1)),(16,(Af 4 Id (B6 (Bg st.all st.all.length) d.name))),(17,(.int .i64 (((Ay (Bg st.all st.all.length) d.name).length:Int)))),(18,(.int .i64 ((i:Int))))],[(1,(.grow ((De m st d own i).map (AV.int .i64)) 3 1))],2⟩∧g=(B6 (Bg st.all st.all.length) d.name).length-i) [0,2,4,7,16,17,18] 2 _ (by omega) ⟨0,(by omega),(by kernel_rfl),rfl⟩ ?_
 rintro g1 y1 ⟨i,f1_1,rfl,rfl⟩
 have hhl:=S4 (m:=m) (st:=st) (d:=d) (own:=own) (i:=i)
 have hhm:((De m st d own i).map (AV.int .i64)).length=(De m st d own i).length:=List.length_map _
 refine Aa [] [0,2,4,7,16,17,18,19] ?_
 refine Ab ?_
 refine Ba (p:=(i:Int) < ((Ay (Bg st.all st.all.length) d.name).length:Int)) (by kernel_rfl) (fun c1=>?_) (fun c1=>?_)
 ·refine Ah ?_
  refine Ab ?_
  refine Ax ?_
  refine Ae [] [0,2,4,7,9,16,17,18] [] hk0 v0 (cc 0 (p:=(0≤(i:Int)∧i < (B6 (Bg st.all st.all.length) d.name).length)) (by omega)<|c0) ?_
  obtain⟨b1,hb1⟩:∃b,b=((nth (B6 (Bg st.all st.all.length) d.name) i).own):=⟨_,rfl⟩
  refine Ae (CS:=[(4,((!b1)=true→(!b1)=true)),(5,(b1=false→(!b1)=true)),(10,(b1||(!own))=true→(b1||(!own))=true∧(b1||(!own))=true∧(b1||(!own))=true),(11,((b1||(!own))=true→(b1||(!own))=true))]) [25,26,29,30,31] [0,2,4,7,9,16,17,18,33] [(0,9)] (hkg 10 (b1||(!own)) X13 (fun cg=>Q99 m hM st d (nth (B6 (Bg st.all st.all.length) d.name) i) hd (hi.evr (by omega)))<|hk0) (vk 3 24 (a:=.bool ((nth (B6 (Bg st.all st.all.length) d.name) i).own)) (b:=.bool b1) (Imp.of_eq (by rw[hb1]))<|v0) (by refine cc _ ?_<|cc _ ?_<|cc _ ?_<|cc _ ?_ c0<;>simp) ?_
  refine Be (q:=(b1||(!own))&&(Nh m st.kind d (nth (B6 (Bg st.all st.all.length) d.name) i))) (by kernel_rfl) (fun c2=>?_) (fun c2=>?_)
  ·subst hb1
   try simp only[Ao] at c2
   refine Ar ?_
   refine Aw 0 [] [0,2,4,7,16,17,18] [] hk0 v0 (cc 4 (p:=((((De m st d own i).map (AV.int .i64)).length+1)*8≤140737488355328)) (by omega)<|c0) ?_
   refine Ar ?_
   refine Aw 0 [] [0,2,4,7,16,17,18] [] hk0 v0 (cc 0 (p:=(-9223372036854775808≤(i:Int)+1∧(i:Int)+1≤9223372036854775807)) (by omega)<|c0) ?_
   refine⟨by kernel_rfl,_,?_,i+1,?_,(Eq.trans (b:=(⟨[(0,(.fp (D2 st))),(2,(.bool own)),(4,(.fp (.agg [(.int .i64 d.kind),(.str d.name),(.int .i64 d.op),(.str d.evr),(.row 5 d.args.length (depAt d.args))]))),(7,(.own 1)),(16,(Af 4 Id (B6 (Bg st.all st.all.length) d.name))),(17,(.int .i64 (((Ay (Bg st.all st.all.length) d.name).length:Int)))),(18,(.int .i64 ((i:Int)+1)))],[(1,(.grow (((De m st d own i).map (AV.int .i64))++([(.int .i64 ((nth (B6 (Bg st.all st.all.length) d.name) i).id))]:List AV)) 3 1))],2⟩:St)) (by kernel_rfl) (by rw[Q9l (by omega) (by unfold Kh;simpa using c2)]<;>kernel_rfl)),rfl⟩
   ·omega
   ·omega
  ·subst hb1
   try simp only[Ao] at c2
   refine Ah ?_
   refine Ar ?_
   refine Aw 0 [] [0,2,4,7,16,17,18] [] hk0 v0 (cc 0 (p:=(-9223372036854775808≤(i:Int)+1∧(i:Int)+1≤9223372036854775807)) (by omega)<|c0) ?_
   refine⟨by kernel_rfl,_,?_,i+1,?_,(Eq.trans (b:=(⟨[(0,(.fp (D2 st))),(2,(.bool own)),(4,(.fp (.agg [(.int .i64 d.kind),(.str d.name),(.int .i64 d.op),(.str d.evr),(.row 5 d.args.length (depAt d.args))]))),(7,(.own 1)),(16,(Af 4 Id (B6 (Bg st.all st.all.length) d.name))),(17,(.int .i64 (((Ay (Bg st.all st.all.length) d.name).length:Int)))),(18,(.int .i64 ((i:Int)+1)))],[(1,(.grow ((De m st d own i).map (AV.int .i64)) 3 1))],2⟩:St)) (by kernel_rfl) (by rw[Q9m (by omega) (by unfold Kh;simp only[Bool.and_eq_false_iff,Bool.or_eq_false_iff,Bool.not_eq_false'];simpa only [Bool.not_eq_false',Bool.not_eq_eq_eq_not,Bool.not_false] using c2)]<;>kernel_rfl)),rfl⟩
   ·omega
   ·omega
 ·refine Bq ?_
  refine Ab ?_
  refine Ar ?_
  refine Bm 1 0 [] [40] [] hk0 v0 c0 ?_
  refine Dy [1] (al:=[(.own 1)]) (al':=[(.own 0)]) (r:=(.own 0)) (r':=(.own 1)) (s':=[(40,Bl),(41,(.own 1))]) (H:=[(0,(.grow ((De m st d own i).map (AV.int .i64)) 3 1))]) (H':=[(0,(.grow ((Lib.compact (De m st d own i)).map (AV.int .i64)) 3 1))]) (h2:=[(1,(.grow ((Lib.compact (De m st d own i)).map (AV.int .i64)) 3 1))]) (by kernel_rfl) (by exact X12) (by kernel_rfl) (by kernel_rfl) (by kernel_rfl) (by kernel_rfl) (by kernel_rfl) (X3h (De m st d own i) (by have:=S4 (m:=m) (st:=st) (d:=d) (own:=own) (i:=i);omega)) (by kernel_rfl) (by kernel_rfl) (by kernel_rfl) ?_
  refine Aw 2 [] [6] [] hk0 v0 c0 ?_
  refine Ac ?_
  refine RK wR [(.row 1 ((Lib.compact (De m st d own i)).map (AV.int .i64)).length (fun ix=>((Lib.compact (De m st d own i)).map (AV.int .i64)).getD ix Bl))] ?_
  rw[show i=(B6 (Bg st.all st.all.length) d.name).length from by omega]
  exact Same.list (f:=AV.int .i64) (List.length_map _)
end Sv
end
section
open Go Go.RowKit
namespace Sv
attribute [local irreducible] SW SO Bh
set_option maxHeartbeats 400000
set_option maxRecDepth 100000
theorem X11:Aj Tryz.prog 175:=Ap Tryz.func175 (by kernel_rfl) rfl
theorem X2c:Aj Tryz.prog 144:=Ap Tryz.func144 (by kernel_rfl) rfl
theorem X2f:Aj Tryz.prog 141:=Ap Tryz.func141 (by kernel_rfl) rfl
theorem X2e:Aj Tryz.prog 142:=Ap Tryz.func142 (by kernel_rfl) rfl
theorem X2d:Aj Tryz.prog 143:=Ap Tryz.func143 (by kernel_rfl) rfl
theorem X2b:Aj Tryz.prog 145:=Ap Tryz.func145 (by kernel_rfl) rfl
theorem Q01:Aj Tryz.prog 103:=Ap Tryz.func103 (by kernel_rfl) rfl
theorem X2t:Aj Tryz.prog 102:=Ap Tryz.func102 (by kernel_rfl) rfl
instance:Inhabited AV:=⟨.nilf⟩
def F7 (q:AV × Bool):AV:=.clo q.1
def Mt (l:List Int) (v:Int):Int:=Ed (fun x=>decide (v=x)) l
theorem Q9h (l : List Int) (v : Int) (hl : l.length ≤ 4611686018427387904) :
  FnV Tryz.prog 104 [(C4 l),(.int .i64 v)] (.int .i64 (Mt l v)):=by
 refine A1 [.tmp 4] Tryz.func104 rfl Tryz.ntmps104 rfl rfl (fun B F hF=>?_)
 refine Aa [] [0,1] ?_
 refine Ab ?_
 refine Aa [] [0,1,7,8] ?_
 refine Ax ?_
 refine B4 (fun g y=>∃(i:Nat),i≤l.length∧(∀j,j < i→¬v=nth l j)∧y=⟨[(0,(C4 l)),(1,(.int .i64 v)),(7,(.int .i64 ((l.length:Int)))),(8,(.int .i64 ((i:Int))))],[],0⟩∧g=l.length-i) [0,1,7,8] 0 _ (by omega) ⟨0,(by omega),(by exact fun j hj=>by omega),(by kernel_rfl),rfl⟩ ?_
 rintro g1 y1 ⟨i,f1_1,f1_2,rfl,rfl⟩
 refine Aa [] [0,1,7,8,9] ?_
 refine Ab ?_
 refine Ba (p:=(i:Int) < (l.length:Int)) (by kernel_rfl) (fun c1=>?_) (fun c1=>?_)
 ·refine Ah ?_
  refine Ab ?_
  refine Ax ?_
  refine Aa [] [0,1,5,7,8] ?_
  refine Ae [] [0,1,5,7,8,16] [] hk0 v0 (cc 3 (p:=(0≤(i:Int)∧i < l.length)) (by omega)<|c0) ?_
  refine Ba (p:=v=(nth l i)) (by kernel_rfl) (fun c2=>?_) (fun c2=>?_)
  ·refine Aa [] [4] ?_
   refine Ac ?_
   refine RK wR [(.int .i64 ((i:Int)))] ?_
   exact Same.of_eq (by unfold Mt;rw[Lw (p:=fun x=>decide (v=x)) (i:=i) (by omega) (fun j hj=>by simpa using f1_2 j hj) (by simpa using c2)];rfl)
  ·refine Ah ?_
   refine Ar ?_
   refine Aw 0 [] [0,1,7,8] [] hk0 v0 (cc 0 (p:=(-9223372036854775808≤(i:Int)+1∧(i:Int)+1≤9223372036854775807)) (by omega)<|c0) ?_
   refine⟨by kernel_rfl,_,?_,i+1,?_,?_,(by kernel_rfl),rfl⟩
   ·omega
   ·omega
   ·intro j hj
    by_cases h:j=i
    ·subst h;assumption
    ·exact f1_2 j (by omega)
 ·refine Bq ?_
  refine Aa [] [4] ?_
  refine Ac ?_
  refine RK wR [(.int .i64 (-1))] ?_
  exact Same.of_eq (by unfold Mt;rw[Lv (p:=fun x=>decide (v=x)) (fun j hj=>by simpa using f1_2 j (by omega))];rfl)
theorem Q1f (l : List Int) (v : Int) (hl : l.length ≤ 4611686018427387904) :
  FnV Tryz.prog 52 [(C4 l),(.int .i64 v)] (.bool (l.any fun x=>decide (v=x))):=by
 refine A1 [.tmp 4] Tryz.func52 rfl Tryz.ntmps52 rfl rfl (fun B F hF=>?_)
 refine Aa [] [0,1] ?_
 refine Ae [] [4] [] (hk 2 X2s (Q9h l v hl)<|hk0) v0 c0 ?_
 refine Ac ?_
 refine RK wR [(.bool (decide (0≤(Mt l v))))] ?_
 exact Same.of_eq (by simp only[Ai];unfold Mt;rw[Lx])
theorem Q90 (l : List (AV × Bool)) (a : AV) (p : (AV × Bool) → Bool) (hl : l.length ≤ 4611686018427387904) (ha : ∀ i, i < l.length → FunV Tryz.prog a [(.clo ((nth l i).1))] (.bool (p (nth l i)))) :
  FnV Tryz.prog 175 [(Af 1 F7 l),(.clo a)] (.int .i64 (Ed p l)):=by
 refine A1 [.tmp 4] Tryz.func175 rfl Tryz.ntmps175 rfl rfl (fun B F hF=>?_)
 refine Aa [] [0,1] ?_
 refine Ab ?_
 refine Aa [] [0,1,7,8] ?_
 refine Ax ?_
 refine B4 (fun g y=>∃(i:Nat),i≤l.length∧(∀j,j < i→p (nth l j)=false)∧y=⟨[(0,(Af 1 F7 l)),(1,(.clo a)),(7,(.int .i64 ((l.length:Int)))),(8,(.int .i64 ((i:Int))))],[],0⟩∧g=l.length-i) [0,1,7,8] 0 _ (by omega) ⟨0,(by omega),(by exact fun j hj=>by omega),(by kernel_rfl),rfl⟩ ?_
 rintro g1 y1 ⟨i,f1_1,f1_2,rfl,rfl⟩
 refine Aa [] [0,1,7,8,9] ?_
 refine Ab ?_
 refine Ba (p:=(i:Int) < (l.length:Int)) (by kernel_rfl) (fun c1=>?_) (fun c1=>?_)
 ·refine Ah ?_
  refine Ab ?_
  refine Ax ?_
  refine Aa [] [0,1,5,7,8] ?_
  refine Ab ?_
  refine Ar ?_
  refine Bm 5 0 [] [0,1,5,7,8,11,15] [] hk0 v0 (cc 3 (p:=(0≤(i:Int)∧i < l.length)) (by omega)<|c0) ?_
  refine Fq (s':=[(0,(Af 1 F7 l)),(1,(.clo a)),(5,(.int .i64 ((i:Int)))),(7,(.int .i64 ((l.length:Int)))),(8,(.int .i64 ((i:Int)))),(11,(.clo a)),(15,(.clo ((nth l i).1))),(16,(.bool (p (nth l i))))]) (a:=(.clo a)) (al:=[(.clo ((nth l i).1))]) (r:=(.bool (p (nth l i)))) (by kernel_rfl) (by kernel_rfl) (by kernel_rfl) (by kernel_rfl) (by kernel_rfl) ((ha i (by omega)).clo) (by kernel_rfl) ?_
  refine Bo ?_
  refine Be (q:=p (nth l i)) (by kernel_rfl) (fun c2=>?_) (fun c2=>?_)
  ·try simp only[Ao] at c2
   refine Aa [] [4] ?_
   refine Ac ?_
   refine RK wR [(.int .i64 ((i:Int)))] ?_
   exact Same.of_eq (by rw[Lw (by omega) f1_2 (by simp_all)];rfl)
  ·try simp only[Ao] at c2
   refine Ah ?_
   refine Ar ?_
   refine Aw 0 [] [0,1,7,8] [] hk0 v0 (cc 0 (p:=(-9223372036854775808≤(i:Int)+1∧(i:Int)+1≤9223372036854775807)) (by omega)<|c0) ?_
   refine⟨by kernel_rfl,_,?_,i+1,?_,?_,(by kernel_rfl),rfl⟩
   ·omega
   ·omega
   ·intro j hj
    by_cases h:j=i
    ·subst h;simp_all
    ·exact f1_2 j (by omega)
 ·refine Bq ?_
  refine Aa [] [4] ?_
  refine Ac ?_
  refine RK wR [(.int .i64 (-1))] ?_
  exact Same.of_eq (by rw[Lv (fun j hj=>f1_2 j (by omega))];rfl)
theorem Q91 (l : List (AV × Bool)) (a : AV) (p : (AV × Bool) → Bool) (hl : l.length ≤ 4611686018427387904) (ha : ∀ i, i < l.length → FunV Tryz.prog a [(.clo ((nth l i).1))] (.bool (p (nth l i)))) :
  FnV Tryz.prog 144 [(Af 1 F7 l),(.clo a)] (.bool (l.any p)):=by
 refine A1 [.tmp 4] Tryz.func144 rfl Tryz.ntmps144 rfl rfl (fun B F hF=>?_)
 refine Aa [] [0,1] ?_
 refine Ae [] [4] [] (hk 2 X11 (Q90 l a p hl ha)<|hk0) v0 c0 ?_
 refine Ac ?_
 refine RK wR [(.bool (decide (0≤(Ed p l))))] ?_
 exact Same.of_eq (by simp only[Ai];rw[Lx])
theorem X4y (l : List Int) (id : Int) (hl : l.length ≤ 4611686018427387904) :
  FnV Tryz.prog 141 [(.int .i64 id),(.fp (.agg [(C4 l)]))] (.bool (l.any fun x=>decide (id=x))):=by
 refine A1 [.tmp 3] Tryz.func141 rfl Tryz.ntmps141 rfl rfl (fun B F hF=>?_)
 refine Aa [] [0,1] ?_
 refine Ae [] [3] [] (hk 2 Q0b (Q1f l id hl)<|hk0) v0 c0 ?_
 refine Ac ?_
 refine RK wR [(.bool (l.any fun x=>decide (id=x)))] ?_
 exact Same.of_eq (by first|rfl|(simp only[Ai];simp_all))
theorem X4x (l : List (AV × Bool)) (id : Int) (hl : 2 ≤ l.length) (hf : ∀ i, i < l.length → FunV Tryz.prog (nth l i).1 [.int .i64 id] (.bool (nth l i).2)) :
  FnV Tryz.prog 142 [(.int .i64 id),(.fp (.agg [(Af 1 F7 l)]))] (.bool ((nth l 0).2&&!(nth l 1).2)):=by
 refine A1 [.tmp 3] Tryz.func142 rfl Tryz.ntmps142 rfl rfl (fun B F hF=>?_)
 refine Aa [] [0,1] ?_
 refine Ab ?_
 refine Ar ?_
 refine Bm 4 0 [] [0,1,6,7] [] hk0 v0 (cc 1 (p:=(0≤(0:Int)∧0 < l.length)) (by omega)<|c0) ?_
 refine Fq (s':=[(0,(.int .i64 id)),(1,(.fp (.agg [(Af 1 F7 l)]))),(6,(.clo ((nth l 0).1))),(7,(.int .i64 id)),(8,(.bool ((nth l 0).2)))]) (a:=(.clo ((nth l 0).1))) (al:=[(.int .i64 id)]) (r:=(.bool ((nth l 0).2))) (by kernel_rfl) (by kernel_rfl) (by kernel_rfl) (by kernel_rfl) (by kernel_rfl) ((hf 0 (by omega)).clo) (by kernel_rfl) ?_
 refine Bm 1 5 [] [0,1,9] [] hk0 v0 c0 ?_
 refine Hy ((nth l 0).2) (fun c1=>?_) (fun c1=>?_)
 ·refine Js 9 (a:=.bool ((nth l 0).2)) (.bool true) (by kernel_rfl) (Imp.of_eq (by rw[c1])) ?_
  refine Bm 4 6 [] [9,12,13] [] hk0 v0 (cc 7 (p:=(0≤(1:Int)∧1 < l.length)) (by omega)<|c0) ?_
  refine Fq (s':=[(9,(.bool true)),(12,(.clo ((nth l 1).1))),(13,(.int .i64 id)),(14,(.bool ((nth l 1).2)))]) (a:=(.clo ((nth l 1).1))) (al:=[(.int .i64 id)]) (r:=(.bool ((nth l 1).2))) (by kernel_rfl) (by kernel_rfl) (by kernel_rfl) (by kernel_rfl) (by kernel_rfl) ((hf 1 (by omega)).clo) (by kernel_rfl) ?_
  refine Aw 11 [] [3] [] hk0 v0 c0 ?_
  refine Ac ?_
  refine RK wR [(.bool (!((nth l 1).2)))] ?_
  exact Same.of_eq (by simp only[Ai];simp_all)
 ·refine Js 9 (a:=.bool ((nth l 0).2)) (.bool false) (by kernel_rfl) (Imp.of_eq (by rw[c1])) ?_
  refine Aw 6 [] [3] [] hk0 v0 c0 ?_
  refine Ac ?_
  refine RK wR [(.bool false)] ?_
  exact Same.of_eq (by simp only[Ai];simp_all)
theorem X4w (a : AV) (q : Bool) (id : Int) (hf : FunV Tryz.prog a [.int .i64 id] (.bool q)) :
  FnV Tryz.prog 145 [(.clo a),(.fp (.agg [(.int .i64 id)]))] (.bool (!q)):=by
 refine A1 [.tmp 3] Tryz.func145 rfl Tryz.ntmps145 rfl rfl (fun B F hF=>?_)
 refine Aa [] [0,1] ?_
 refine Ab ?_
 refine Ar ?_
 refine Bm 2 0 [] [4,5] [] hk0 v0 c0 ?_
 refine Fq (s':=[(4,(.clo a)),(5,(.int .i64 id)),(6,(.bool q))]) (a:=(.clo a)) (al:=[(.int .i64 id)]) (r:=(.bool q)) (by kernel_rfl) (by kernel_rfl) (by kernel_rfl) (by kernel_rfl) (by kernel_rfl) hf.clo (by kernel_rfl) ?_
 refine Aw 3 [] [3] [] hk0 v0 c0 ?_
 refine Ac ?_
 refine RK wR [(.bool (!q))] ?_
 exact Same.of_eq (by first|rfl|(simp only[Ai];simp_all))
theorem X4v (l : List (AV × Bool)) (id : Int) (hl : l.length ≤ 4611686018427387904) (hf : ∀ i, i < l.length → FunV Tryz.prog (nth l i).1 [.int .i64 id] (.bool (nth l i).2)) :
  FnV Tryz.prog 143 [(.int .i64 id),(.fp (.agg [(Af 1 F7 l)]))] (.bool (!l.any fun q => !q.2)):=by
 refine A1 [.tmp 3] Tryz.func143 rfl Tryz.ntmps143 rfl rfl (fun B F hF=>?_)
 refine Aa [] [1,2] ?_
 refine Ab ?_
 refine Ar ?_
 refine Bm 2 0 [] [4,5] [] hk0 v0 c0 ?_
 refine X6h (s':=[(4,(Af 1 F7 l)),(5,(.fn 145 [] [(.ptr 0 0)])),(6,(.bool (l.any fun q => !q.2)))]) (al:=[(Af 1 F7 l),(.fn 145 [] [(.ptr 0 0)])]) (al':=[(Af 1 F7 l),(.fn 145 [] [(.fp (.agg [(.int .i64 id)]))])]) (h':=[]) (r:=(.bool (l.any fun q => !q.2))) (by kernel_rfl) (by exact X2c) (by kernel_rfl) (by kernel_rfl) ((Q91 l (.fn 145 [] [.fp (.agg [.int .i64 id])]) (fun q => !q.2) hl (fun i hi=>FunV.of (by exact X2b) (X4w (nth l i).1 (nth l i).2 id (hf i hi)))).of_args (ImpL.cons Imp.refl (ImpL.cons (Imp.clo rfl) ImpL.nil))) rfl (by kernel_rfl) ?_
 refine Aw 3 [] [3] [] hk0 v0 c0 ?_
 refine Ac ?_
 refine RK wR [(.bool (!(l.any fun q => !q.2)))] ?_
 exact Same.of_eq (by first|rfl|(simp only[Ai];simp_all))
theorem Q41 (k : Int) :
  FnV Tryz.prog 102 [(.int .i64 k)] (.bool (decide (k=1)||(decide (k=5)||decide (k=6)))):=by
 refine A1 [.tmp 2] Tryz.func102 rfl Tryz.ntmps102 rfl rfl (fun B F hF=>?_)
 refine Aa [] [0] ?_
 obtain⟨b1,hb1⟩:∃b,b=((decide (k=1))||(decide (k=5))):=⟨_,rfl⟩
 refine Ae (CS:=[(4,((!(decide (k=1)))=true→(!(decide (k=1)))=true)),(5,((decide (k=1))=false→(!(decide (k=1)))=true)),(8,((!b1)=true→(!b1)=true)),(9,(b1=false→(!b1)=true))]) [6,7,10,11] [2] [] hk0 (vk 7 9 (a:=.bool ((decide (k=1))||(decide (k=5)))) (b:=.bool b1) (Imp.of_eq (by rw[hb1]))<|v0) (by refine cc _ ?_<|cc _ ?_<|cc _ ?_<|cc _ ?_ c0<;>simp) ?_
 refine Ac ?_
 refine RK wR [(.bool (b1||(decide (k=6))))] ?_
 subst hb1
 exact Same.of_eq (by simp only[Ai,Bool.or_assoc])
end Sv
end
end Go.Proofs.YtlamaeednbhjdaaGreatDoor
