/- The texts OpenV, OpenR, OpenJ of the proof, joined. Each says at its theorems what it proves. -/
import Derived.Test.YtlamaeednbhjdaaGreatDoorV4
set_option linter.unusedSimpArgs false
set_option linter.unusedVariables false
namespace Go.Proofs.YtlamaeednbhjdaaGreatDoor
section
open Go Go.RowKit
namespace Sv
def Ef (W:World):Nat→Option Obj:=fun b=>W.heap[b]?
theorem Q2z (W:World):Fro (Ef W) W:=fun _ _ e=>e
theorem Wd {w:World} {b k:Nat} {v:Value} (h:w.cell? ⟨b,k,none⟩=some v):∃cs e fr,w.heap[b]? = some (.cells cs e fr)∧cs[k]? = some v:=by
 unfold World.cell? at h;split at h
 ·rename_i c e fr hb;exact⟨c,e,fr,hb,by simpa using h⟩
 ·cases h
theorem P7 {α:Type} [Inhabited α] {R:α→List Value→Prop}:∀{l:List α} {m:List (List Value)},Two R l m→∀{i},i < l.length→R (Go.Proofs.YtlamaeednbhjdaaGreatDoor.nth l i) (Go.Proofs.YtlamaeednbhjdaaGreatDoor.nth m i)
 |[],[],_,i,h=>by simp at h
 |_::_,[],h,_,_=>h.elim
 |a::l,b::m,h,0,_=>h.1
 |a::l,b::m,h,i+1,hi=>P7 (l:=l) (m:=m) h.2 (by simpa using hi)
section
variable {H : Type} {enc : TypeId × Value → H} {P : Program} {W : World}
theorem Og {α:Type} [Inhabited α] {t e:TypeId} {sz fuel:Nat} {cs:List Value} {y:DataW H × List MemPlace} (ht:P.underlying t=some (.slice e)) (hc:P.cellsOf e=sz) (hsz:0 < sz) {f:α→AV} {size:α→Nat} (wrap:List Value→Value)
  (hw:∀cs',cs'.length=sz→(∀c∈cs',c.oneCell'=true)→(wrap cs').cells.toList=cs')
  (each:∀n cs' y,n < fuel→cs'.length=sz→DataW.trod enc P W 0 (fun _=>true) true n e cs'=some y→∃x,(VR (ofF (Ef W)) (f x) (wrap cs')∧∀c∈cs',c.oneCell'=true)∧size x≤Rows.uptoBulk y.1) (h:DataW.trod enc P W 0 (fun _=>true) true fuel t cs=some y) :
  ∃(v:Value) (l:List α),cs=[v]∧VR (ofF (Ef W)) (Aj sz f l) v∧(l.map size).sum+1≤Rows.uptoBulk y.1:=by
 obtain⟨v,l,css,rfl,hr,h2,h4,h5⟩:=X2o (Q:=fun x cs'=>VR (ofF (Ef W)) (f x) (wrap cs')∧∀c∈cs',c.oneCell'=true) ht hc hsz each h;refine⟨v,l,rfl,?_,h5⟩
 have hshape:v = .slice none 0 0∨∃a n c,v = .slice (some a) n c∧n≤c:=by
  rcases DataW.trod_slice ht h with⟨e,_⟩|⟨a,len,cap,_,_,_,_,e,_,_,hle,_⟩
  ·left;simpa using e
  ·right;exact⟨a,len,cap,by simpa using e,hle⟩
 unfold Aj;simp only[VR];have hlen:=h2.len;refine⟨fun i=>wrap (nth css i),fun i hi=>(P7 h2 hi).1,?_⟩;rcases hr.2 with⟨h0,a,c,rfl⟩|⟨b,o,c,rfl,hcell⟩
 ·refine .inl ⟨h0,?_⟩;rcases hshape with e|⟨a',n,c',e,_⟩
  ·exact .inl e
  ·cases e;exact .inr ⟨a',c,rfl⟩
 ·have hnc:l.length≤c:=by
   rcases hshape with e|⟨a',n,c',e,hle⟩
   ·cases e
   ·cases e;exact hle
  refine .inr ⟨b,o,c,rfl,hnc,fun i hi=>?_⟩;have hmem:nth css i∈css:=Rj (by omega);have hwr:=hw _ (h4 _ hmem) (P7 h2 hi).2;have hat:∀j,j < sz→css.flatten[i*sz+j]? = (nth css i)[j]? := fun j hj=>O3 (sz:=sz) css i j h4 (by omega) hj;refine⟨by rw[←Array.length_toList,hwr];exact h4 _ hmem,?_⟩;rw[hwr];have hl:=h4 _ hmem;obtain⟨cs0,e0,fr0,k1,_⟩:=Wd (hcell (i*sz+0) _ ((hat 0 hsz).trans (List.getElem?_eq_getElem (show 0 < (nth css i).length by omega))));refine⟨cs0,e0,fr0,k1,fun j u hu=>?_⟩
  have hj:j < sz:=by have:=(List.getElem?_eq_some_iff.1 hu).1;omega
  obtain⟨cs1,e1,fr1,k2,k3⟩:=Wd (hcell (i*sz+j) u ((hat j hj).trans hu));rw[k1] at k2;cases k2;exact⟨by rw[Nat.add_assoc];exact k3,(P7 h2 hi).2 u (List.mem_of_getElem? hu)⟩
set_option maxRecDepth 100000 in
theorem X2p:∀(fuel:Nat) (cs:List Value) (x:DataW H × List MemPlace),DataW.trod enc Tryz.prog W 0 (fun _=>true) true fuel 67 cs=some x→∃d:DepT,(VR (ofF (Ef W)) (Ap d) (.agg cs.toArray)∧∀c∈cs,c.oneCell'=true)∧d.size≤Rows.uptoBulk x.1:=by
 intro fuel
 induction fuel using Nat.strongRecOn with
 |ind fuel ih =>
 intro cs x h;obtain⟨xs,n,hf,rfl,hl,hxs,hfs⟩:=DataW.trod_struct Tryz.underlying67 h;have hl':cs.length=5:=hl.trans (by kernel_rfl)
 match cs,hl' with
 |[c0,c1,c2,c3,c4],_ =>
 match xs,hxs with
 |[y0,y1,y2,y3,y4],_ =>
 have g0:DataW.trod enc Tryz.prog W 0 (fun _=>true) true n 3 (([c0,c1,c2,c3,c4].drop 0).take (Tryz.prog.cellsOf 3))=some y0:=hfs 0 _ rfl;have g1:DataW.trod enc Tryz.prog W 0 (fun _=>true) true n 9 (([c0,c1,c2,c3,c4].drop 1).take (Tryz.prog.cellsOf 9))=some y1:=hfs 1 _ rfl;have g2:DataW.trod enc Tryz.prog W 0 (fun _=>true) true n 3 (([c0,c1,c2,c3,c4].drop 2).take (Tryz.prog.cellsOf 3))=some y2:=hfs 2 _ rfl;have g3:DataW.trod enc Tryz.prog W 0 (fun _=>true) true n 9 (([c0,c1,c2,c3,c4].drop 3).take (Tryz.prog.cellsOf 9))=some y3:=hfs 3 _ rfl;have g4:DataW.trod enc Tryz.prog W 0 (fun _=>true) true n 39 (([c0,c1,c2,c3,c4].drop 4).take (Tryz.prog.cellsOf 39))=some y4:=hfs 4 _ rfl
 have k1:Tryz.prog.cellsOf 3=1:=by kernel_rfl
 have k2:Tryz.prog.cellsOf 9=1:=by kernel_rfl
 have k3:Tryz.prog.cellsOf 39=1:=by kernel_rfl
 have k4:Tryz.prog.cellsOf 67=5:=by kernel_rfl
 rw[k1] at g0 g2;rw[k2] at g1 g3;rw[k3] at g4;simp only[List.drop_zero,List.drop_succ_cons,List.take_succ_cons,List.take_zero] at g0 g1 g2 g3 g4;obtain⟨k,e0,rfl,_⟩:=DataW.trod_int Tryz.underlying3 g0;obtain⟨nm,e1,rfl,_⟩:=DataW.trod_string Tryz.underlying9 g1;obtain⟨op,e2,rfl,_⟩:=DataW.trod_int Tryz.underlying3 g2;obtain⟨ev,e3,rfl,_⟩:=DataW.trod_string Tryz.underlying9 g3;obtain⟨v,l,e4,hr,hb⟩:=Og (f:=Ap) (size:=DepT.size) Tryz.underlying39 k4 (by omega) (fun cs => .agg cs.toArray) (fun cs' _ _=>by simp[Value.cells]) (fun n' cs' y hn _ hy=>ih n' (by omega) cs' y hy) g4
 have hsl:v.oneCell'=true:=by
  have hr':=hr;unfold Aj at hr';simp only[VR] at hr';obtain⟨u,_,h0|⟨b,o,c,rfl,_⟩⟩:=hr'
  ·rcases h0 with⟨_,rfl|⟨a,c,rfl⟩⟩<;>rfl
  ·rfl
 simp only[List.cons.injEq,and_true] at e0 e1 e2 e3 e4;subst e0 e1 e2 e3 e4;refine⟨.mk k nm.data.toList op ev.data.toList l,⟨?_,?_⟩,?_⟩
 ·refine X87 _ _ _ ?_;simp only[VR];refine⟨_,.cons (by simp only[VR];rfl) (.cons (by simp only[VR];exact J8 nm) (.cons (by simp only[VR];rfl) (.cons (by simp only[VR];exact J8 ev) (.cons hr .nil)))),rfl⟩
 ·intro c hc;simp only[List.mem_cons,List.not_mem_nil,or_false] at hc;rcases hc with rfl|rfl|rfl|rfl|rfl
  ·rfl
  ·rfl
  ·rfl
  ·rfl
  ·exact hsl
 ·rw[Q53] at hb;simp only[DepT.size,List.map_cons,List.map_nil,Rows.uptoBulk,Rows.uptoBulkAll];omega
end
theorem FnV.calls {P:Program} {f:Nat} {al:List AV} {W:World} {vs:List Value} (h:FnV P f al (.bool true)) (hv:VRl (ofF (Ef W)) al vs):Calls P f vs.toArray W (Ret fun v w'=>v = .bool true∧Below W.heap.size W w') :=
 (h (Ef W) W vs (Q2z W) hv).mono fun e w' hh=>by
  obtain⟨v,he,hb,F',_,_,_,k⟩:=hh;simp only[VR] at k;exact⟨v,he,k,hb⟩
end Sv
end
section
open Go Go.RowKit
namespace Sv
section
variable {H : Type} {enc : TypeId × Value → H} {W : World}
theorem X2r {v:Value} (h:v.oneCell'=true):v.cells.toList=[v]:=by cases v<;>simp_all [Value.cells,Value.oneCell']
theorem Jj {sz n:Nat} {g:Nat→AV} {v:Value} (h:VR (ofF (Ef W)) (.row sz n g) v):v.oneCell'=true:=by
 simp only[VR] at h;obtain⟨u,_,h0|⟨b,o,c,rfl,_⟩⟩:=h
 ·rcases h0 with⟨_,rfl|⟨a,c,rfl⟩⟩<;>rfl
 ·rfl
theorem X5u (l:List (List UInt8)):(l.map fun x=>x.length+1).sum=Hp l:=by
 induction l with
 |nil=>rfl
 |cons d r ih=>simp only[List.map_cons,List.sum_cons,Hp,ih];omega
theorem X2j {fuel:Nat} {cs:List Value} {y:DataW H × List MemPlace} (h:DataW.trod enc Tryz.prog W 0 (fun _=>true) true fuel 40 cs=some y) :
  ∃(v:Value) (l:List (List UInt8)),cs=[v]∧VR (ofF (Ef W)) (B3 l) v∧Hp l+1≤Rows.uptoBulk y.1:=by
 obtain⟨v,l,h1,h2,h3⟩:=Og (f:=AV.str) (size:=fun x=>x.length+1) (sz:=1) Tryz.underlying40 (show Tryz.prog.cellsOf 9=1 by kernel_rfl) (by omega) (fun cs=>cs.headD undef) (fun cs' hl ho=>by
  match cs',hl with
  |[c],_=>exact X2r (ho c (by simp))) (fun n cs' y _ hl hy=>by
  obtain⟨s,e,rfl,_⟩:=DataW.trod_string Tryz.underlying9 hy;subst e
  exact⟨s.data.toList,⟨by first|(simp only[VR,List.headD];done)|(simp only[VR,List.headD];exact J8 s),by intro c hc;simp at hc;subst hc;rfl⟩,by simp[Rows.uptoBulk]⟩) h
 exact⟨v,l,h1,h2,by rw[X5u] at h3;exact h3⟩
abbrev I64:={ x:Int // -9223372036854775808≤x∧x≤9223372036854775807 }
instance:Inhabited I64:=⟨⟨0,by decide⟩⟩
theorem Li {fuel:Nat} {cs:List Value} {y:DataW H × List MemPlace} (h:DataW.trod enc Tryz.prog W 0 (fun _=>true) true fuel 39 cs=some y) :
  ∃(v:Value) (l:List DepT),cs=[v]∧VR (ofF (Ef W)) (Dk l) v∧argsSize l+1≤Rows.uptoBulk y.1:=by
 obtain⟨v,l,h1,h2,h3⟩:=Og (f:=Ap) (size:=DepT.size) Tryz.underlying39 (show Tryz.prog.cellsOf 67=5 by kernel_rfl) (by omega) (fun cs => .agg cs.toArray) (fun cs' _ _=>by simp[Value.cells]) (fun n cs' y _ _ hy=>X2p n cs' y hy) h;exact⟨v,l,h1,h2,by rw[Q53] at h3;exact h3⟩
set_option maxHeartbeats 1000000 in
set_option maxRecDepth 100000 in
theorem X2n {fuel:Nat} {cs:List Value} {x:DataW H × List MemPlace} (h:DataW.trod enc Tryz.prog W 0 (fun _=>true) true fuel 42 cs=some x):∃d:PkgT,(VR (ofF (Ef W)) (Ar d) (.agg cs.toArray)∧∀c∈cs,c.oneCell'=true)∧d.size+1≤Rows.uptoBulk x.1:=by
 obtain⟨xs,n,hf,rfl,hl,hxs,hfs⟩:=DataW.trod_struct Tryz.underlying42 h;have hl':cs.length=12:=hl.trans (by kernel_rfl)
 match cs,hl' with
 |[c0,c1,c2,c3,c4,c5,c6,c7,c8,c9,c10,c11],_ =>
 match xs,hxs with
 |[y0,y1,y2,y3,y4,y5,y6,y7,y8,y9,y10,y11],_ =>
 have g0:DataW.trod enc Tryz.prog W 0 (fun _=>true) true n 9 [c0]=some y0:=by
  have g:DataW.trod enc Tryz.prog W 0 (fun _=>true) true n 9 (([c0,c1,c2,c3,c4,c5,c6,c7,c8,c9,c10,c11].drop 0).take (Tryz.prog.cellsOf 9))=some y0:=hfs 0 _ rfl;rw[show Tryz.prog.cellsOf 9=1 by kernel_rfl] at g;exact g
 have g1:DataW.trod enc Tryz.prog W 0 (fun _=>true) true n 9 [c1]=some y1:=by
  have g:DataW.trod enc Tryz.prog W 0 (fun _=>true) true n 9 (([c0,c1,c2,c3,c4,c5,c6,c7,c8,c9,c10,c11].drop 1).take (Tryz.prog.cellsOf 9))=some y1:=hfs 1 _ rfl;rw[show Tryz.prog.cellsOf 9=1 by kernel_rfl] at g;exact g
 have g2:DataW.trod enc Tryz.prog W 0 (fun _=>true) true n 9 [c2]=some y2:=by
  have g:DataW.trod enc Tryz.prog W 0 (fun _=>true) true n 9 (([c0,c1,c2,c3,c4,c5,c6,c7,c8,c9,c10,c11].drop 2).take (Tryz.prog.cellsOf 9))=some y2:=hfs 2 _ rfl;rw[show Tryz.prog.cellsOf 9=1 by kernel_rfl] at g;exact g
 have g3:DataW.trod enc Tryz.prog W 0 (fun _=>true) true n 9 [c3]=some y3:=by
  have g:DataW.trod enc Tryz.prog W 0 (fun _=>true) true n 9 (([c0,c1,c2,c3,c4,c5,c6,c7,c8,c9,c10,c11].drop 3).take (Tryz.prog.cellsOf 9))=some y3:=hfs 3 _ rfl;rw[show Tryz.prog.cellsOf 9=1 by kernel_rfl] at g;exact g
 have g4:DataW.trod enc Tryz.prog W 0 (fun _=>true) true n 39 [c4]=some y4:=by
  have g:DataW.trod enc Tryz.prog W 0 (fun _=>true) true n 39 (([c0,c1,c2,c3,c4,c5,c6,c7,c8,c9,c10,c11].drop 4).take (Tryz.prog.cellsOf 39))=some y4:=hfs 4 _ rfl;rw[show Tryz.prog.cellsOf 39=1 by kernel_rfl] at g;exact g
 have g5:DataW.trod enc Tryz.prog W 0 (fun _=>true) true n 39 [c5]=some y5:=by
  have g:DataW.trod enc Tryz.prog W 0 (fun _=>true) true n 39 (([c0,c1,c2,c3,c4,c5,c6,c7,c8,c9,c10,c11].drop 5).take (Tryz.prog.cellsOf 39))=some y5:=hfs 5 _ rfl;rw[show Tryz.prog.cellsOf 39=1 by kernel_rfl] at g;exact g
 have g6:DataW.trod enc Tryz.prog W 0 (fun _=>true) true n 39 [c6]=some y6:=by
  have g:DataW.trod enc Tryz.prog W 0 (fun _=>true) true n 39 (([c0,c1,c2,c3,c4,c5,c6,c7,c8,c9,c10,c11].drop 6).take (Tryz.prog.cellsOf 39))=some y6:=hfs 6 _ rfl;rw[show Tryz.prog.cellsOf 39=1 by kernel_rfl] at g;exact g
 have g7:DataW.trod enc Tryz.prog W 0 (fun _=>true) true n 39 [c7]=some y7:=by
  have g:DataW.trod enc Tryz.prog W 0 (fun _=>true) true n 39 (([c0,c1,c2,c3,c4,c5,c6,c7,c8,c9,c10,c11].drop 7).take (Tryz.prog.cellsOf 39))=some y7:=hfs 7 _ rfl;rw[show Tryz.prog.cellsOf 39=1 by kernel_rfl] at g;exact g
 have g8:DataW.trod enc Tryz.prog W 0 (fun _=>true) true n 39 [c8]=some y8:=by
  have g:DataW.trod enc Tryz.prog W 0 (fun _=>true) true n 39 (([c0,c1,c2,c3,c4,c5,c6,c7,c8,c9,c10,c11].drop 8).take (Tryz.prog.cellsOf 39))=some y8:=hfs 8 _ rfl;rw[show Tryz.prog.cellsOf 39=1 by kernel_rfl] at g;exact g
 have g9:DataW.trod enc Tryz.prog W 0 (fun _=>true) true n 39 [c9]=some y9:=by
  have g:DataW.trod enc Tryz.prog W 0 (fun _=>true) true n 39 (([c0,c1,c2,c3,c4,c5,c6,c7,c8,c9,c10,c11].drop 9).take (Tryz.prog.cellsOf 39))=some y9:=hfs 9 _ rfl;rw[show Tryz.prog.cellsOf 39=1 by kernel_rfl] at g;exact g
 have g10:DataW.trod enc Tryz.prog W 0 (fun _=>true) true n 39 [c10]=some y10:=by
  have g:DataW.trod enc Tryz.prog W 0 (fun _=>true) true n 39 (([c0,c1,c2,c3,c4,c5,c6,c7,c8,c9,c10,c11].drop 10).take (Tryz.prog.cellsOf 39))=some y10:=hfs 10 _ rfl;rw[show Tryz.prog.cellsOf 39=1 by kernel_rfl] at g;exact g
 have g11:DataW.trod enc Tryz.prog W 0 (fun _=>true) true n 40 [c11]=some y11:=by
  have g:DataW.trod enc Tryz.prog W 0 (fun _=>true) true n 40 (([c0,c1,c2,c3,c4,c5,c6,c7,c8,c9,c10,c11].drop 11).take (Tryz.prog.cellsOf 40))=some y11:=hfs 11 _ rfl;rw[show Tryz.prog.cellsOf 40=1 by kernel_rfl] at g;exact g
 obtain⟨s0,e0,rfl,_⟩:=DataW.trod_string Tryz.underlying9 g0;obtain⟨s1,e1,rfl,_⟩:=DataW.trod_string Tryz.underlying9 g1;obtain⟨s2,e2,rfl,_⟩:=DataW.trod_string Tryz.underlying9 g2;obtain⟨s3,e3,rfl,_⟩:=DataW.trod_string Tryz.underlying9 g3;obtain⟨w4,s4,e4,r4,b4⟩:=Li g4;obtain⟨w5,s5,e5,r5,b5⟩:=Li g5;obtain⟨w6,s6,e6,r6,b6⟩:=Li g6;obtain⟨w7,s7,e7,r7,b7⟩:=Li g7;obtain⟨w8,s8,e8,r8,b8⟩:=Li g8;obtain⟨w9,s9,e9,r9,b9⟩:=Li g9;obtain⟨w10,s10,e10,r10,b10⟩:=Li g10;obtain⟨w11,s11,e11,r11,b11⟩:=X2j g11;simp only[List.cons.injEq,and_true] at e0 e1 e2 e3 e4 e5 e6 e7 e8 e9 e10 e11;subst e0 e1 e2 e3 e4 e5 e6 e7 e8 e9 e10 e11;refine⟨⟨s0.data.toList,s1.data.toList,s2.data.toList,s3.data.toList,s4,s5,s6,s7,s8,s9,s10,s11⟩,⟨?_,?_⟩,?_⟩
 ·unfold Ar;simp only[VR];exact⟨_,.cons (by first|(simp only[VR];done)|(simp only[VR];exact J8 s0)) (.cons (by first|(simp only[VR];done)|(simp only[VR];exact J8 s1)) (.cons (by first|(simp only[VR];done)|(simp only[VR];exact J8 s2)) (.cons (by first|(simp only[VR];done)|(simp only[VR];exact J8 s3)) (.cons r4 (.cons r5 (.cons r6 (.cons r7 (.cons r8 (.cons r9 (.cons r10 (.cons r11 (.nil)))))))))))),rfl⟩
 ·intro c hc;simp only[List.mem_cons,List.not_mem_nil,or_false] at hc;rcases hc with rfl|rfl|rfl|rfl|rfl|rfl|rfl|rfl|rfl|rfl|rfl|rfl
  ·exact rfl
  ·exact rfl
  ·exact rfl
  ·exact rfl
  ·exact Jj r4
  ·exact Jj r5
  ·exact Jj r6
  ·exact Jj r7
  ·exact Jj r8
  ·exact Jj r9
  ·exact Jj r10
  ·exact Jj r11
 ·simp only[PkgT.size,PkgT.depSize,List.map_cons,List.map_nil,Rows.uptoBulk,Rows.uptoBulkAll];omega
theorem X17 (l:List PkgT):(l.map fun p=>p.size+1).sum=Il l:=by
 induction l with
 |nil=>rfl
 |cons d r ih=>simp only[List.map_cons,List.sum_cons,Il,ih];omega
theorem X2m {fuel:Nat} {cs:List Value} {y:DataW H × List MemPlace} (h:DataW.trod enc Tryz.prog W 0 (fun _=>true) true fuel 57 cs=some y) :
  ∃(v:Value) (l:List PkgT),cs=[v]∧VR (ofF (Ef W)) (Aj 12 Ar l) v∧Il l+1≤Rows.uptoBulk y.1:=by
 obtain⟨v,l,h1,h2,h3⟩:=Og (f:=Ar) (size:=fun p=>p.size+1) Tryz.underlying57 (show Tryz.prog.cellsOf 42=12 by kernel_rfl) (by omega) (fun cs => .agg cs.toArray) (fun cs' _ _=>by simp[Value.cells]) (fun n cs' y _ _ hy=>by
  obtain⟨d,h1,h2⟩:=X2n hy
  exact⟨d,h1,h2⟩) h
 exact⟨v,l,h1,h2,by rw[X17] at h3;exact h3⟩
set_option maxHeartbeats 1000000 in
set_option maxRecDepth 100000 in
theorem X2l {fuel:Nat} {cs:List Value} {x:DataW H × List MemPlace} (h:DataW.trod enc Tryz.prog W 0 (fun _=>true) true fuel 59 cs=some x):∃d:RepoT,(VR (ofF (Ef W)) (Bg d) (.agg cs.toArray)∧∀c∈cs,c.oneCell'=true)∧d.size+1≤Rows.uptoBulk x.1:=by
 obtain⟨xs,n,hf,rfl,hl,hxs,hfs⟩:=DataW.trod_struct Tryz.underlying59 h;have hl':cs.length=4:=hl.trans (by kernel_rfl)
 match cs,hl' with
 |[c0,c1,c2,c3],_ =>
 match xs,hxs with
 |[y0,y1,y2,y3],_ =>
 have g0:DataW.trod enc Tryz.prog W 0 (fun _=>true) true n 9 [c0]=some y0:=by
  have g:DataW.trod enc Tryz.prog W 0 (fun _=>true) true n 9 (([c0,c1,c2,c3].drop 0).take (Tryz.prog.cellsOf 9))=some y0:=hfs 0 _ rfl;rw[show Tryz.prog.cellsOf 9=1 by kernel_rfl] at g;exact g
 have g1:DataW.trod enc Tryz.prog W 0 (fun _=>true) true n 3 [c1]=some y1:=by
  have g:DataW.trod enc Tryz.prog W 0 (fun _=>true) true n 3 (([c0,c1,c2,c3].drop 1).take (Tryz.prog.cellsOf 3))=some y1:=hfs 1 _ rfl;rw[show Tryz.prog.cellsOf 3=1 by kernel_rfl] at g;exact g
 have g2:DataW.trod enc Tryz.prog W 0 (fun _=>true) true n 4 [c2]=some y2:=by
  have g:DataW.trod enc Tryz.prog W 0 (fun _=>true) true n 4 (([c0,c1,c2,c3].drop 2).take (Tryz.prog.cellsOf 4))=some y2:=hfs 2 _ rfl;rw[show Tryz.prog.cellsOf 4=1 by kernel_rfl] at g;exact g
 have g3:DataW.trod enc Tryz.prog W 0 (fun _=>true) true n 57 [c3]=some y3:=by
  have g:DataW.trod enc Tryz.prog W 0 (fun _=>true) true n 57 (([c0,c1,c2,c3].drop 3).take (Tryz.prog.cellsOf 57))=some y3:=hfs 3 _ rfl;rw[show Tryz.prog.cellsOf 57=1 by kernel_rfl] at g;exact g
 obtain⟨s0,e0,rfl,_⟩:=DataW.trod_string Tryz.underlying9 g0;obtain⟨s1,e1,rfl,_⟩:=DataW.trod_int Tryz.underlying3 g1;obtain⟨s2,e2,rfl⟩:=DataW.trod_bool Tryz.underlying4 g2;obtain⟨w3,s3,e3,r3,b3⟩:=X2m g3;simp only[List.cons.injEq,and_true] at e0 e1 e2 e3;subst e0 e1 e2 e3;refine⟨⟨s0.data.toList,s1,s2,s3⟩,⟨?_,?_⟩,?_⟩
 ·unfold Bg;simp only[VR];exact⟨_,.cons (by first|(simp only[VR];done)|(simp only[VR];exact J8 s0)) (.cons (by simp only[VR]) (.cons (by simp only[VR]) (.cons r3 (.nil)))),rfl⟩
 ·intro c hc;simp only[List.mem_cons,List.not_mem_nil,or_false] at hc;rcases hc with rfl|rfl|rfl|rfl
  ·exact rfl
  ·exact rfl
  ·exact rfl
  ·exact Jj r3
 ·simp only[RepoT.size,List.map_cons,List.map_nil,Rows.uptoBulk,Rows.uptoBulkAll];omega
theorem X2k {fuel:Nat} {cs:List Value} {y:DataW H × List MemPlace} (h:DataW.trod enc Tryz.prog W 0 (fun _=>true) true fuel 22 cs=some y) :
  ∃(v:Value) (l:List RepoT),cs=[v]∧VR (ofF (Ef W)) (Aj 4 Bg l) v∧(l.map RepoT.size).sum+1≤Rows.uptoBulk y.1 :=
 Og (f:=Bg) (size:=RepoT.size) Tryz.underlying22 (show Tryz.prog.cellsOf 59=4 by kernel_rfl) (by omega) (fun cs => .agg cs.toArray) (fun cs' _ _=>by simp[Value.cells]) (fun n cs' y _ _ hy=>by
  obtain⟨d,h1,h2⟩:=X2l hy
  exact⟨d,h1,by omega⟩) h
theorem Q81 {l:List RepoT}:∀{i:Nat},i < l.length→(nth l i).size≤(l.map RepoT.size).sum:=by
 induction l with
 |nil=>intro i h;simp at h
 |cons r l ih =>
  intro i h
  cases i with
  |zero=>simp only[List.map_cons,List.sum_cons];show r.size≤_;omega
  |succ i =>
   have:=ih (i:=i) (by simpa using h);simp only[List.map_cons,List.sum_cons];show(nth l i).size≤_;omega
theorem X2:∀l:List RepoT,l.length≤(l.map RepoT.size).sum
 |[]=>Nat.le_refl _
 |r::l=>by
  have:=X2 l
  have:1≤r.size:=by unfold RepoT.size;omega
  simp only[List.map_cons,List.sum_cons,List.length_cons];omega
set_option maxRecDepth 100000 in
theorem open_repos {r:Reach} {b0:Nat} {v:Value} {d:DataW H} {p:List MemPlace} (hv:Value.okWide Tryz.prog W r b0 22 v) (h:DataW.Trod enc Tryz.prog W 0 (fun _=>true) true 22 v d p) :
  ∃l:List RepoT,VR (ofF (Ef W)) (Aj 4 Bg l) v∧l.length≤Rows.uptoBulk d∧∀i,i < l.length→(nth l i).size≤Rows.uptoBulk d:=by
 obtain⟨a,len,cap,rfl⟩:=Go.WideShapes.okWide_slice Tryz.underlying22 hv;obtain⟨fuel,hf⟩:=h;obtain⟨v,l,h1,h2,h3⟩:=X2k hf
 have e:Value.slice a len cap=v:=by simpa [Value.cells] using h1
 subst e;have h3:(l.map RepoT.size).sum+1≤Rows.uptoBulk d:=h3;exact⟨l,h2,by have:=X2 l;omega,fun i hi=>by have:=Q81 hi;omega⟩
end
end Sv
end
section
open Go Go.RowKit
namespace Sv
section
variable {H : Type} {enc : TypeId × Value → H} {P : Program} {W : World}
set_option maxRecDepth 100000 in
theorem open_job {r:Reach} {b0:Nat} {v:Value} {d:DataW H} {p:List MemPlace} (hv:Value.okWide Tryz.prog W r b0 24 v) (h:DataW.Trod enc Tryz.prog W 0 (fun _=>true) true 24 v d p) :
  ∃(k hw:Int) (l:List UInt8),VR (ofF (Ef W)) (.agg [.int .i64 k,.int .i64 hw,.str l]) v∧l.length≤Rows.uptoBulk d:=by
 obtain⟨cs,rfl,_⟩:=Go.WideShapes.okWide_struct Tryz.underlying24 hv;obtain⟨fuel,h⟩:=h;obtain⟨xs,n,hf,he,hl,hxs,hfs⟩:=DataW.trod_struct Tryz.underlying24 h;obtain⟨rfl,rfl⟩:=Prod.mk.inj he;have hl':cs.size=3:=hl.trans (by kernel_rfl);obtain⟨cs⟩:=cs;have hl2:cs.length=3:=hl'
 match cs,hl2 with
 |[c0,c1,c2],_ =>
 match xs,hxs with
 |[y0,y1,y2],_ =>
 have g0:DataW.trod enc Tryz.prog W 0 (fun _=>true) true n 3 (([c0,c1,c2].drop 0).take (Tryz.prog.cellsOf 3))=some y0:=hfs 0 _ rfl;have g1:DataW.trod enc Tryz.prog W 0 (fun _=>true) true n 3 (([c0,c1,c2].drop 1).take (Tryz.prog.cellsOf 3))=some y1:=hfs 1 _ rfl;have g2:DataW.trod enc Tryz.prog W 0 (fun _=>true) true n 9 (([c0,c1,c2].drop 2).take (Tryz.prog.cellsOf 9))=some y2:=hfs 2 _ rfl
 have k1:Tryz.prog.cellsOf 3=1:=by kernel_rfl
 have k2:Tryz.prog.cellsOf 9=1:=by kernel_rfl
 rw[k1] at g0 g1;rw[k2] at g2;simp only[List.drop_zero,List.drop_succ_cons,List.take_succ_cons,List.take_zero] at g0 g1 g2;obtain⟨k,e0,rfl,_⟩:=DataW.trod_int Tryz.underlying3 g0;obtain⟨hw,e1,rfl,_⟩:=DataW.trod_int Tryz.underlying3 g1;obtain⟨ev,e2,rfl,_⟩:=DataW.trod_string Tryz.underlying9 g2;simp only[List.cons.injEq,and_true] at e0 e1 e2;subst e0 e1 e2;refine⟨k,hw,ev.data.toList,?_,?_⟩
 ·simp only[VR];exact⟨_,.cons (by simp only[VR]) (.cons (by simp only[VR]) (.cons (J8 ev) .nil)),rfl⟩
 ·simp only[List.map_cons,List.map_nil,Rows.uptoBulk,Rows.uptoBulkAll];omega
theorem FnVG.calls {P:Program} {C:(Nat→Option Obj)→Prop} {f:Nat} {al:List AV} {W:World} {vs:List Value} (h:FnVG P C f al (.bool true)) (hC:C (Ef W)) (hv:VRl (ofF (Ef W)) al vs):Calls P f vs.toArray W (Ret fun v w'=>v = .bool true∧Below W.heap.size W w') :=
 (h (Ef W) W vs hC (Q2z W) hv).mono fun e w' hh=>by
  obtain⟨v,he,hb,F',_,_,_,k⟩:=hh;simp only[VR] at k;exact⟨v,he,k,hb⟩
theorem intAt_of (hsh:W.ShapedOpen Tryz.prog):IntAt 0 (Ef W):=by
 obtain⟨m,hm⟩:=Tryz.laysM147.s1_3 W hsh;obtain⟨cs,e,fr,h1,h2⟩:=Wd hm;exact⟨cs,e,fr,m,h1,h2⟩
end
end Sv
end
end Go.Proofs.YtlamaeednbhjdaaGreatDoor
