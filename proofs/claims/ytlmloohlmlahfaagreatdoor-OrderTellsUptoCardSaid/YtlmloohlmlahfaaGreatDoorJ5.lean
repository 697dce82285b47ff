/- The texts OpenD, OpenV, OpenR of the proof, joined. Each says at its theorems what it proves. -/
import Derived.Test.YtlmloohlmlahfaaGreatDoorJ4
import Derived.Test.YtlmloohlmlahfaaGreatDoorRows
import Derived.ChangeArms
import Derived.WideShapes
set_option linter.unusedSimpArgs false
set_option linter.unusedVariables false
namespace Go.Proofs.YtlmloohlmlahfaaGreatDoor
section
open Go Go.RowKit
section
variable {H : Type} {enc : TypeId × Value → H} {P : Program} {W : World}
def Two {α β:Type} (R:α→β→Prop):List α→List β→Prop
  |[],[]=>True
  |a::l,b::m=>R a b∧Two R l m
  |_,_=>False
theorem Two.len {α β:Type} {R:α→β→Prop}:∀{l:List α} {m:List β},Two R l m→m.length=l.length
  |[],[],_=>rfl
  |_::_,_::_,h=>by simp only[List.length_cons,Two.len h.2]
theorem X8h {w:World} {a:Addr} {v:Value} (h:w.cell? a=some v):a.spot=none:=by
  unfold World.cell? at h
  cases hs:a.spot with
  |none=>rfl
  |some k=>rw[hs] at h;split at h<;>simp at h
theorem Z2 {α : Type} {e : TypeId} {sz n : Nat} {a : Addr} (hc : P.cellsOf e = sz) {Q : α → List Value → Prop} {size : α → Nat}
    (each:∀cs' y,cs'.length=sz→DataW.trod enc P W 0 (fun _=>true) true n e cs'=some y→∃x,Q x cs'∧size x≤Rows.uptoBulk y.1) :
    ∀(elems:List (DataW H × List MemPlace)) (i:Nat),(∀j,j < elems.length→(W.cells? 0 (a.add ((i+j)*sz)) sz).bind (DataW.trod enc P W 0 (fun _=>true) true n e)=elems[j]?) →
      ∃(l:List α) (css:List (List Value)),l.length=elems.length∧Two Q l css∧(l.map size).sum≤Rows.uptoBulkAll (elems.map (·.1))∧(∀c∈css,c.length=sz) ∧
        ∀j u,css.flatten[j]? = some u→W.cell? (a.add (i*sz+j))=some u
  |[],i,_=>⟨[],[],rfl,trivial,by simp,by simp,by simp⟩
  |y::r,i,h=>by
    have h0:=h 0 (by simp)
    simp only[Nat.add_zero,List.getElem?_cons_zero] at h0
    obtain⟨cs',h1,h2⟩:=Option.bind_eq_some_iff.1 h0
    obtain⟨_,hl,hcs⟩:=World.cells?_some h1
    obtain⟨x,hx,hs⟩:=each cs' y hl h2
    obtain⟨l,css,e1,e2,e3,e4,e5⟩:=Z2 hc each r (i+1) (fun j hj=>by
      have:=h (j+1) (by simpa using hj)
      rw[show i+(j+1)=i+1+j by omega] at this
      simpa using this)
    refine⟨x::l,cs'::css,by simp[e1],⟨hx,e2⟩,?_,?_,?_⟩
    · simp only[List.map_cons,List.sum_cons,Rows.uptoBulkAll];omega
    · intro c hc';rcases List.mem_cons.1 hc' with rfl|hc'
      · exact hl
      · exact e4 c hc'
    · intro j u hu
      rw[List.flatten_cons] at hu
      by_cases hj:j < sz
      · rw[List.getElem?_append_left (by omega)] at hu
        have:=hcs j hj
        rw[hu] at this
        rw[←this]
        congr 1
        show a.add (i*sz+j)=(a.add (i*sz)).add j
        unfold Addr.add
        by_cases h1:i*sz=0<;>by_cases h2:j=0<;>simp[h1,h2,Nat.add_assoc]
      · rw[List.getElem?_append_right (by omega),hl] at hu
        have:=e5 (j-sz) u hu
        rw[←this];congr 2
        have:(i+1)*sz=i*sz+sz:=by rw[Nat.add_mul,Nat.one_mul]
        omega
theorem X0z {α : Type} {t e : TypeId} {sz fuel : Nat} {cs : List Value} {y : DataW H × List MemPlace} (ht : P.underlying t = some (.slice e)) (hc : P.cellsOf e = sz) (hsz : 0 < sz) {Q : α → List Value → Prop} {size : α → Nat}
    (each:∀n cs' y,n < fuel→cs'.length=sz→DataW.trod enc P W 0 (fun _=>true) true n e cs'=some y→∃x,Q x cs'∧size x≤Rows.uptoBulk y.1) (h:DataW.trod enc P W 0 (fun _=>true) true fuel t cs=some y) :
    ∃(v:Value) (l:List α) (css:List (List Value)),cs=[v]∧RowIs W v l.length sz css.flatten∧Two Q l css∧(∀c∈css,c.length=sz)∧(l.map size).sum+1≤Rows.uptoBulk y.1:=by
  rcases DataW.trod_slice ht h with⟨rfl,rfl⟩|⟨a,len,cap,elems,rest,n,hf,rfl,rfl,_,_,_,hlen,hel,_,_⟩
  · exact⟨_,[],[],rfl,⟨by simp,.inl ⟨rfl,_,_,rfl⟩⟩,trivial,by simp,by simp[Rows.uptoBulk]⟩
  · subst hc
    obtain⟨l,css,e1,e2,e3,e4,e5⟩:=Z2 (a:=a) rfl (each n · · (by omega)) elems 0 (fun j hj=>by rw[Nat.zero_add];exact hel j (by omega))
    have hfl:css.flatten.length=l.length*P.cellsOf e:=by
      rw[←e2.len,List.length_flatten]
      clear e5 e2 e1
      induction css with
      |nil=>simp
      |cons c r ih=>simp only[List.map_cons,List.sum_cons,List.length_cons];rw[ih (fun c hc=>e4 c (by simp[hc])),e4 c (by simp),Nat.add_mul];omega
    refine⟨_,l,css,rfl,⟨hfl,?_⟩,e2,e4,by simp only[Rows.uptoBulk];omega⟩
    by_cases hn:l.length=0
    · exact .inl ⟨hn,some a,cap,by rw[←hlen,←e1,hn]⟩
    · right
      have hp:0 < css.flatten.length:=by rw[hfl];exact Nat.mul_pos (by omega) hsz
      have hsp:=X8h (a:=a) (by have:=e5 0 _ (List.getElem?_eq_getElem hp);rw[Nat.zero_mul] at this;exact this)
      obtain⟨b,o,sp⟩:=a
      simp only at hsp;subst hsp
      refine⟨b,o,cap,by rw[←hlen,←e1],fun j u hu=>?_⟩
      have:=e5 j u hu
      rw[Nat.zero_mul,Nat.zero_add] at this
      rw[←this];congr 1
      unfold Addr.add;split<;>simp_all
end
section
variable {H : Type} {enc : TypeId × Value → H} {W : World}
theorem Kj (s:ByteArray):Value.string s=S s.data.toList:=by simp[S]
theorem Q5i (l:List DepT):(l.map DepT.size).sum=argsSize l:=by
  induction l with
  |nil=>rfl
  |cons d r ih=>simp only[List.map_cons,List.sum_cons,argsSize,ih]
end
end
section
open Go Go.RowKit
namespace Sv
def Fb (W:World):Nat→Option Obj:=fun b=>W.heap[b]?
theorem X3o (W:World):Fro (Fb W) W:=fun _ _ e=>e
theorem Q4t {w:World} {b k:Nat} {v:Value} (h:w.cell? ⟨b,k,none⟩=some v):∃cs e fr,w.heap[b]? = some (.cells cs e fr)∧cs[k]? = some v:=by
  unfold World.cell? at h
  split at h
  · rename_i c e fr hb
    exact⟨c,e,fr,hb,by simpa using h⟩
  · cases h
theorem Pg {α:Type} [Inhabited α] {R:α→List Value→Prop}:∀{l:List α} {m:List (List Value)},Two R l m→∀{i},i < l.length→R (Go.Proofs.YtlmloohlmlahfaaGreatDoor.nth l i) (Go.Proofs.YtlmloohlmlahfaaGreatDoor.nth m i)
  |[],[],_,i,h=>by simp at h
  |_::_,[],h,_,_=>h.elim
  |a::l,b::m,h,0,_=>h.1
  |a::l,b::m,h,i+1,hi=>Pg (l:=l) (m:=m) h.2 (by simpa using hi)
section
variable {H : Type} {enc : TypeId × Value → H} {P : Program} {W : World}
theorem Mb {α : Type} [Inhabited α] {t e : TypeId} {sz fuel : Nat} {cs : List Value} {y : DataW H × List MemPlace} (ht : P.underlying t = some (.slice e)) (hc : P.cellsOf e = sz) (hsz : 0 < sz) {f : α → AV} {size : α → Nat} (wrap : List Value → Value)
    (hw:∀cs',cs'.length=sz→(∀c∈cs',c.oneCell'=true)→(wrap cs').cells.toList=cs')
    (each:∀n cs' y,n < fuel→cs'.length=sz→DataW.trod enc P W 0 (fun _=>true) true n e cs'=some y→∃x,(VR (ofF (Fb W)) (f x) (wrap cs')∧∀c∈cs',c.oneCell'=true)∧size x≤Rows.uptoBulk y.1) (h:DataW.trod enc P W 0 (fun _=>true) true fuel t cs=some y) :
    ∃(v:Value) (l:List α),cs=[v]∧VR (ofF (Fb W)) (Ae sz f l) v∧(l.map size).sum+1≤Rows.uptoBulk y.1:=by
  obtain⟨v,l,css,rfl,hr,h2,h4,h5⟩:=X0z (Q:=fun x cs'=>VR (ofF (Fb W)) (f x) (wrap cs')∧∀c∈cs',c.oneCell'=true) ht hc hsz each h
  refine⟨v,l,rfl,?_,h5⟩
  have hshape:v = .slice none 0 0∨∃a n c,v = .slice (some a) n c∧n≤c:=by
    rcases DataW.trod_slice ht h with⟨e,_⟩|⟨a,len,cap,_,_,_,_,e,_,_,hle,_⟩
    · left;simpa using e
    · right;exact⟨a,len,cap,by simpa using e,hle⟩
  unfold Ae
  simp only[VR]
  have hlen:=h2.len
  refine⟨fun i=>wrap (nth css i),fun i hi=>(Pg h2 hi).1,?_⟩
  rcases hr.2 with⟨h0,a,c,rfl⟩|⟨b,o,c,rfl,hcell⟩
  · refine .inl ⟨h0,?_⟩
    rcases hshape with e|⟨a',n,c',e,_⟩
    · exact .inl e
    · cases e;exact .inr ⟨a',c,rfl⟩
  · have hnc : l.length ≤ c := by
      rcases hshape with e|⟨a',n,c',e,hle⟩
      · cases e
      · cases e;exact hle
    refine .inr ⟨b,o,c,rfl,hnc,fun i hi=>?_⟩
    have hmem:nth css i∈css:=Ja (by omega)
    have hwr:=hw _ (h4 _ hmem) (Pg h2 hi).2
    have hat:∀j,j < sz→css.flatten[i*sz+j]? = (nth css i)[j]? := fun j hj=>Q2 (sz:=sz) css i j h4 (by omega) hj
    refine⟨by rw[←Array.length_toList,hwr];exact h4 _ hmem,?_⟩
    rw[hwr]
    have hl:=h4 _ hmem
    obtain⟨cs0,e0,fr0,k1,_⟩:=Q4t (hcell (i*sz+0) _ ((hat 0 hsz).trans (List.getElem?_eq_getElem (show 0 < (nth css i).length by omega))))
    refine⟨cs0,e0,fr0,k1,fun j u hu=>?_⟩
    have hj:j < sz:=by have:=(List.getElem?_eq_some_iff.1 hu).1;omega
    obtain⟨cs1,e1,fr1,k2,k3⟩:=Q4t (hcell (i*sz+j) u ((hat j hj).trans hu))
    rw[k1] at k2;cases k2
    exact⟨by rw[Nat.add_assoc];exact k3,(Pg h2 hi).2 u (List.mem_of_getElem? hu)⟩
set_option maxRecDepth 100000 in
theorem Z3:∀(fuel:Nat) (cs:List Value) (x:DataW H × List MemPlace),DataW.trod enc Tryz.prog W 0 (fun _=>true) true fuel 25 cs=some x→∃d:DepT,(VR (ofF (Fb W)) (Ao d) (.agg cs.toArray)∧∀c∈cs,c.oneCell'=true)∧d.size≤Rows.uptoBulk x.1:=by
  intro fuel
  induction fuel using Nat.strongRecOn with
  |ind fuel ih =>
  intro cs x h
  obtain⟨xs,n,hf,rfl,hl,hxs,hfs⟩:=DataW.trod_struct Tryz.underlying25 h
  have hl':cs.length=5:=hl.trans (by kernel_rfl)
  match cs,hl' with
  |[c0,c1,c2,c3,c4],_ =>
  match xs,hxs with
  |[y0,y1,y2,y3,y4],_ =>
  have g0:DataW.trod enc Tryz.prog W 0 (fun _=>true) true n 3 (([c0,c1,c2,c3,c4].drop 0).take (Tryz.prog.cellsOf 3))=some y0:=hfs 0 _ rfl
  have g1:DataW.trod enc Tryz.prog W 0 (fun _=>true) true n 9 (([c0,c1,c2,c3,c4].drop 1).take (Tryz.prog.cellsOf 9))=some y1:=hfs 1 _ rfl
  have g2:DataW.trod enc Tryz.prog W 0 (fun _=>true) true n 3 (([c0,c1,c2,c3,c4].drop 2).take (Tryz.prog.cellsOf 3))=some y2:=hfs 2 _ rfl
  have g3:DataW.trod enc Tryz.prog W 0 (fun _=>true) true n 9 (([c0,c1,c2,c3,c4].drop 3).take (Tryz.prog.cellsOf 9))=some y3:=hfs 3 _ rfl
  have g4:DataW.trod enc Tryz.prog W 0 (fun _=>true) true n 23 (([c0,c1,c2,c3,c4].drop 4).take (Tryz.prog.cellsOf 23))=some y4:=hfs 4 _ rfl
  have k1:Tryz.prog.cellsOf 3=1:=by kernel_rfl
  have k2:Tryz.prog.cellsOf 9=1:=by kernel_rfl
  have k3:Tryz.prog.cellsOf 23=1:=by kernel_rfl
  have k4:Tryz.prog.cellsOf 25=5:=by kernel_rfl
  rw[k1] at g0 g2;rw[k2] at g1 g3;rw[k3] at g4
  simp only[List.drop_zero,List.drop_succ_cons,List.take_succ_cons,List.take_zero] at g0 g1 g2 g3 g4
  obtain⟨k,e0,rfl,_⟩:=DataW.trod_int Tryz.underlying3 g0
  obtain⟨nm,e1,rfl,_⟩:=DataW.trod_string Tryz.underlying9 g1
  obtain⟨op,e2,rfl,_⟩:=DataW.trod_int Tryz.underlying3 g2
  obtain⟨ev,e3,rfl,_⟩:=DataW.trod_string Tryz.underlying9 g3
  obtain⟨v,l,e4,hr,hb⟩:=Mb (f:=Ao) (size:=DepT.size) Tryz.underlying23 k4 (by omega) (fun cs => .agg cs.toArray) (fun cs' _ _=>by simp[Value.cells]) (fun n' cs' y hn _ hy=>ih n' (by omega) cs' y hy) g4
  have hsl:v.oneCell'=true:=by
    have hr':=hr
    unfold Ae at hr'
    simp only[VR] at hr'
    obtain⟨u,_,h0|⟨b,o,c,rfl,_⟩⟩:=hr'
    · rcases h0 with⟨_,rfl|⟨a,c,rfl⟩⟩<;>rfl
    · rfl
  simp only[List.cons.injEq,and_true] at e0 e1 e2 e3 e4
  subst e0 e1 e2 e3 e4
  refine⟨.mk k nm.data.toList op ev.data.toList l,⟨?_,?_⟩,?_⟩
  · refine Q4g _ _ _ ?_
    simp only[VR]
    refine⟨_,.cons (by simp only[VR];rfl) (.cons (by simp only[VR];exact Kj nm) (.cons (by simp only[VR];rfl) (.cons (by simp only[VR];exact Kj ev) (.cons hr .nil)))),rfl⟩
  · intro c hc
    simp only[List.mem_cons,List.not_mem_nil,or_false] at hc
    rcases hc with rfl|rfl|rfl|rfl|rfl
    · rfl
    · rfl
    · rfl
    · rfl
    · exact hsl
  · rw[Q5i] at hb
    simp only[DepT.size,List.map_cons,List.map_nil,Rows.uptoBulk,Rows.uptoBulkAll]
    omega
set_option maxRecDepth 100000 in
theorem open_depV {r : Reach} {b0 : Nat} {v : Value} {d : DataW H} {p : List MemPlace} (hv : Value.okWide Tryz.prog W r b0 25 v) (h : DataW.Trod enc Tryz.prog W 0 (fun _ => true) true 25 v d p) :
    ∃t:DepT,VR (ofF (Fb W)) (Ao t) v∧t.size≤Rows.uptoBulk d:=by
  obtain⟨cs,rfl,_⟩:=Go.WideShapes.okWide_struct Tryz.underlying25 hv
  obtain⟨fuel,hf⟩:=h
  obtain⟨t,h1,h2⟩:=Z3 fuel _ _ hf
  exact⟨t,by have:=h1.1;simpa [Value.cells] using this,h2⟩
end
theorem FnV.calls {P:Program} {f:Nat} {al:List AV} {W:World} {vs:List Value} (h:FnV P f al (.bool true)) (hv:VRl (ofF (Fb W)) al vs):Calls P f vs.toArray W (Ret fun v w'=>v = .bool true∧Below W.heap.size W w') :=
  (h (Fb W) W vs (X3o W) hv).mono fun e w' hh=>by
    obtain⟨v,he,hb,F',_,_,_,k⟩:=hh
    simp only[VR] at k
    exact⟨v,he,k,hb⟩
end Sv
end
section
open Go Go.RowKit
namespace Sv
section
variable {H : Type} {enc : TypeId × Value → H} {W : World}
theorem Z4 {v:Value} (h:v.oneCell'=true):v.cells.toList=[v]:=by cases v<;>simp_all [Value.cells,Value.oneCell']
theorem I4 {sz n:Nat} {g:Nat→AV} {v:Value} (h:VR (ofF (Fb W)) (.row sz n g) v):v.oneCell'=true:=by
 simp only[VR] at h
 obtain⟨u,_,h0|⟨b,o,c,rfl,_⟩⟩:=h
 ·rcases h0 with⟨_,rfl|⟨a,c,rfl⟩⟩<;>rfl
 ·rfl
theorem X30 (l:List (List UInt8)):(l.map fun x=>x.length+1).sum=Hj l:=by
 induction l with
 |nil=>rfl
 |cons d r ih=>simp only[List.map_cons,List.sum_cons,Hj,ih];omega
theorem X0t {fuel : Nat} {cs : List Value} {y : DataW H × List MemPlace} (h : DataW.trod enc Tryz.prog W 0 (fun _ => true) true fuel 36 cs = some y) :
  ∃(v:Value) (l:List (List UInt8)),cs=[v]∧VR (ofF (Fb W)) (Di l) v∧Hj l+1≤Rows.uptoBulk y.1:=by
 obtain⟨v,l,h1,h2,h3⟩:=Mb (f:=AV.str) (size:=fun x=>x.length+1) (sz:=1) Tryz.underlying36 (show Tryz.prog.cellsOf 9=1 by kernel_rfl) (by omega) (fun cs=>cs.headD undef) (fun cs' hl ho=>by
  match cs',hl with
  |[c],_=>exact Z4 (ho c (by simp))) (fun n cs' y _ hl hy=>by
  obtain⟨s,e,rfl,_⟩:=DataW.trod_string Tryz.underlying9 hy
  subst e
  exact⟨s.data.toList,⟨by first|(simp only[VR,List.headD];done)|(simp only[VR,List.headD];exact Kj s),by intro c hc;simp at hc;subst hc;rfl⟩,by simp[Rows.uptoBulk]⟩) h
 exact⟨v,l,h1,h2,by rw[X30] at h3;exact h3⟩
theorem X01 {α:Type} (l:List α):(l.map fun _=>1).sum=l.length:=by
 induction l with
 |nil=>rfl
 |cons d r ih=>simp only[List.map_cons,List.sum_cons,List.length_cons,ih];omega
abbrev I64:={ x:Int // -9223372036854775808≤x∧x≤9223372036854775807 }
instance:Inhabited I64:=⟨⟨0,by decide⟩⟩
theorem X28 {n:Int} (h:(Lit.int .i64 n).wf=true) : -9223372036854775808≤n∧n≤9223372036854775807:=by
 simp only[Lit.wf,Bool.and_eq_true,decide_eq_true_eq] at h
 rw[show IntKind.min .i64 = -9223372036854775808 by kernel_rfl,show IntKind.max .i64=9223372036854775807 by kernel_rfl] at h
 exact h
theorem X0y {fuel : Nat} {cs : List Value} {y : DataW H × List MemPlace} (h : DataW.trod enc Tryz.prog W 0 (fun _ => true) true fuel 26 cs = some y) :
  ∃(v:Value) (l:List Int),cs=[v]∧VR (ofF (Fb W)) (Ah l) v∧l.length+1≤Rows.uptoBulk y.1∧∀i,i < l.length → -9223372036854775808≤nth l i∧nth l i≤9223372036854775807:=by
 obtain⟨v,l,h1,h2,h3⟩:=Mb (α:=I64) (f:=fun x=>AV.int .i64 x.1) (size:=fun _=>1) (sz:=1) Tryz.underlying26 (show Tryz.prog.cellsOf 3=1 by kernel_rfl) (by omega) (fun cs=>cs.headD undef) (fun cs' hl ho=>by
  match cs',hl with
  |[c],_=>exact Z4 (ho c (by simp))) (fun n cs' y _ hl hy=>by
  obtain⟨s,e,rfl,hw⟩:=DataW.trod_int Tryz.underlying3 hy
  subst e
  exact⟨⟨s,X28 hw⟩,⟨by simp only[VR,List.headD],by intro c hc;simp at hc;subst hc;rfl⟩,by simp[Rows.uptoBulk]⟩) h
 have hn:∀i,i < l.length→nth (l.map Subtype.val) i=(nth l i).1:=fun i hi=>by simp[nth,hi]
 refine⟨v,l.map Subtype.val,h1,?_,by rw[List.length_map];rw[X01] at h3;exact h3,fun i hi=>?_⟩
 ·refine Imp.trans (b:=.row 1 (l.map Subtype.val).length (fun i => .int .i64 (nth l i).1)) ?_ (Imp.row fun i hi=>Imp.of_eq (by rw[hn i (by simpa using hi)])) _ _ h2
  rw[List.length_map];exact Imp.refl
 ·rw[List.length_map] at hi
  rw[hn i hi];exact(nth l i).2
theorem K3 {fuel : Nat} {cs : List Value} {y : DataW H × List MemPlace} (h : DataW.trod enc Tryz.prog W 0 (fun _ => true) true fuel 23 cs = some y) :
  ∃(v:Value) (l:List DepT),cs=[v]∧VR (ofF (Fb W)) (D4 l) v∧argsSize l+1≤Rows.uptoBulk y.1:=by
 obtain⟨v,l,h1,h2,h3⟩:=Mb (f:=Ao) (size:=DepT.size) Tryz.underlying23 (show Tryz.prog.cellsOf 25=5 by kernel_rfl) (by omega) (fun cs => .agg cs.toArray) (fun cs' _ _=>by simp[Value.cells]) (fun n cs' y _ _ hy=>Z3 n cs' y hy) h
 exact⟨v,l,h1,h2,by rw[Q5i] at h3;exact h3⟩
set_option maxHeartbeats 1000000 in
set_option maxRecDepth 100000 in
theorem X0x {fuel:Nat} {cs:List Value} {x:DataW H × List MemPlace} (h:DataW.trod enc Tryz.prog W 0 (fun _=>true) true fuel 38 cs=some x):∃d:PkgT,(VR (ofF (Fb W)) (Av d) (.agg cs.toArray)∧∀c∈cs,c.oneCell'=true)∧d.size+1≤Rows.uptoBulk x.1:=by
 obtain⟨xs,n,hf,rfl,hl,hxs,hfs⟩:=DataW.trod_struct Tryz.underlying38 h
 have hl':cs.length=12:=hl.trans (by kernel_rfl)
 match cs,hl' with
 |[c0,c1,c2,c3,c4,c5,c6,c7,c8,c9,c10,c11],_ =>
 match xs,hxs with
 |[y0,y1,y2,y3,y4,y5,y6,y7,y8,y9,y10,y11],_ =>
 have g0:DataW.trod enc Tryz.prog W 0 (fun _=>true) true n 9 [c0]=some y0:=by
  have g:DataW.trod enc Tryz.prog W 0 (fun _=>true) true n 9 (([c0,c1,c2,c3,c4,c5,c6,c7,c8,c9,c10,c11].drop 0).take (Tryz.prog.cellsOf 9))=some y0:=hfs 0 _ rfl
  rw[show Tryz.prog.cellsOf 9=1 by kernel_rfl] at g
  exact g
 have g1:DataW.trod enc Tryz.prog W 0 (fun _=>true) true n 9 [c1]=some y1:=by
  have g:DataW.trod enc Tryz.prog W 0 (fun _=>true) true n 9 (([c0,c1,c2,c3,c4,c5,c6,c7,c8,c9,c10,c11].drop 1).take (Tryz.prog.cellsOf 9))=some y1:=hfs 1 _ rfl
  rw[show Tryz.prog.cellsOf 9=1 by kernel_rfl] at g
  exact g
 have g2:DataW.trod enc Tryz.prog W 0 (fun _=>true) true n 9 [c2]=some y2:=by
  have g:DataW.trod enc Tryz.prog W 0 (fun _=>true) true n 9 (([c0,c1,c2,c3,c4,c5,c6,c7,c8,c9,c10,c11].drop 2).take (Tryz.prog.cellsOf 9))=some y2:=hfs 2 _ rfl
  rw[show Tryz.prog.cellsOf 9=1 by kernel_rfl] at g
  exact g
 have g3:DataW.trod enc Tryz.prog W 0 (fun _=>true) true n 9 [c3]=some y3:=by
  have g:DataW.trod enc Tryz.prog W 0 (fun _=>true) true n 9 (([c0,c1,c2,c3,c4,c5,c6,c7,c8,c9,c10,c11].drop 3).take (Tryz.prog.cellsOf 9))=some y3:=hfs 3 _ rfl
  rw[show Tryz.prog.cellsOf 9=1 by kernel_rfl] at g
  exact g
 have g4:DataW.trod enc Tryz.prog W 0 (fun _=>true) true n 23 [c4]=some y4:=by
  have g:DataW.trod enc Tryz.prog W 0 (fun _=>true) true n 23 (([c0,c1,c2,c3,c4,c5,c6,c7,c8,c9,c10,c11].drop 4).take (Tryz.prog.cellsOf 23))=some y4:=hfs 4 _ rfl
  rw[show Tryz.prog.cellsOf 23=1 by kernel_rfl] at g
  exact g
 have g5:DataW.trod enc Tryz.prog W 0 (fun _=>true) true n 23 [c5]=some y5:=by
  have g:DataW.trod enc Tryz.prog W 0 (fun _=>true) true n 23 (([c0,c1,c2,c3,c4,c5,c6,c7,c8,c9,c10,c11].drop 5).take (Tryz.prog.cellsOf 23))=some y5:=hfs 5 _ rfl
  rw[show Tryz.prog.cellsOf 23=1 by kernel_rfl] at g
  exact g
 have g6:DataW.trod enc Tryz.prog W 0 (fun _=>true) true n 23 [c6]=some y6:=by
  have g:DataW.trod enc Tryz.prog W 0 (fun _=>true) true n 23 (([c0,c1,c2,c3,c4,c5,c6,c7,c8,c9,c10,c11].drop 6).take (Tryz.prog.cellsOf 23))=some y6:=hfs 6 _ rfl
  rw[show Tryz.prog.cellsOf 23=1 by kernel_rfl] at g
  exact g
 have g7:DataW.trod enc Tryz.prog W 0 (fun _=>true) true n 23 [c7]=some y7:=by
  have g:DataW.trod enc Tryz.prog W 0 (fun _=>true) true n 23 (([c0,c1,c2,c3,c4,c5,c6,c7,c8,c9,c10,c11].drop 7).take (Tryz.prog.cellsOf 23))=some y7:=hfs 7 _ rfl
  rw[show Tryz.prog.cellsOf 23=1 by kernel_rfl] at g
  exact g
 have g8:DataW.trod enc Tryz.prog W 0 (fun _=>true) true n 23 [c8]=some y8:=by
  have g:DataW.trod enc Tryz.prog W 0 (fun _=>true) true n 23 (([c0,c1,c2,c3,c4,c5,c6,c7,c8,c9,c10,c11].drop 8).take (Tryz.prog.cellsOf 23))=some y8:=hfs 8 _ rfl
  rw[show Tryz.prog.cellsOf 23=1 by kernel_rfl] at g
  exact g
 have g9:DataW.trod enc Tryz.prog W 0 (fun _=>true) true n 23 [c9]=some y9:=by
  have g:DataW.trod enc Tryz.prog W 0 (fun _=>true) true n 23 (([c0,c1,c2,c3,c4,c5,c6,c7,c8,c9,c10,c11].drop 9).take (Tryz.prog.cellsOf 23))=some y9:=hfs 9 _ rfl
  rw[show Tryz.prog.cellsOf 23=1 by kernel_rfl] at g
  exact g
 have g10:DataW.trod enc Tryz.prog W 0 (fun _=>true) true n 23 [c10]=some y10:=by
  have g:DataW.trod enc Tryz.prog W 0 (fun _=>true) true n 23 (([c0,c1,c2,c3,c4,c5,c6,c7,c8,c9,c10,c11].drop 10).take (Tryz.prog.cellsOf 23))=some y10:=hfs 10 _ rfl
  rw[show Tryz.prog.cellsOf 23=1 by kernel_rfl] at g
  exact g
 have g11:DataW.trod enc Tryz.prog W 0 (fun _=>true) true n 36 [c11]=some y11:=by
  have g:DataW.trod enc Tryz.prog W 0 (fun _=>true) true n 36 (([c0,c1,c2,c3,c4,c5,c6,c7,c8,c9,c10,c11].drop 11).take (Tryz.prog.cellsOf 36))=some y11:=hfs 11 _ rfl
  rw[show Tryz.prog.cellsOf 36=1 by kernel_rfl] at g
  exact g
 obtain⟨s0,e0,rfl,_⟩:=DataW.trod_string Tryz.underlying9 g0
 obtain⟨s1,e1,rfl,_⟩:=DataW.trod_string Tryz.underlying9 g1
 obtain⟨s2,e2,rfl,_⟩:=DataW.trod_string Tryz.underlying9 g2
 obtain⟨s3,e3,rfl,_⟩:=DataW.trod_string Tryz.underlying9 g3
 obtain⟨w4,s4,e4,r4,b4⟩:=K3 g4
 obtain⟨w5,s5,e5,r5,b5⟩:=K3 g5
 obtain⟨w6,s6,e6,r6,b6⟩:=K3 g6
 obtain⟨w7,s7,e7,r7,b7⟩:=K3 g7
 obtain⟨w8,s8,e8,r8,b8⟩:=K3 g8
 obtain⟨w9,s9,e9,r9,b9⟩:=K3 g9
 obtain⟨w10,s10,e10,r10,b10⟩:=K3 g10
 obtain⟨w11,s11,e11,r11,b11⟩:=X0t g11
 simp only[List.cons.injEq,and_true] at e0 e1 e2 e3 e4 e5 e6 e7 e8 e9 e10 e11
 subst e0 e1 e2 e3 e4 e5 e6 e7 e8 e9 e10 e11
 refine⟨⟨s0.data.toList,s1.data.toList,s2.data.toList,s3.data.toList,s4,s5,s6,s7,s8,s9,s10,s11⟩,⟨?_,?_⟩,?_⟩
 ·unfold Av
  simp only[VR]
  exact⟨_,.cons (by first|(simp only[VR];done)|(simp only[VR];exact Kj s0)) (.cons (by first|(simp only[VR];done)|(simp only[VR];exact Kj s1)) (.cons (by first|(simp only[VR];done)|(simp only[VR];exact Kj s2)) (.cons (by first|(simp only[VR];done)|(simp only[VR];exact Kj s3)) (.cons r4 (.cons r5 (.cons r6 (.cons r7 (.cons r8 (.cons r9 (.cons r10 (.cons r11 (.nil)))))))))))),rfl⟩
 ·intro c hc
  simp only[List.mem_cons,List.not_mem_nil,or_false] at hc
  rcases hc with rfl|rfl|rfl|rfl|rfl|rfl|rfl|rfl|rfl|rfl|rfl|rfl
  ·exact rfl
  ·exact rfl
  ·exact rfl
  ·exact rfl
  ·exact I4 r4
  ·exact I4 r5
  ·exact I4 r6
  ·exact I4 r7
  ·exact I4 r8
  ·exact I4 r9
  ·exact I4 r10
  ·exact I4 r11
 ·simp only[PkgT.size,PkgT.depSize,List.map_cons,List.map_nil,Rows.uptoBulk,Rows.uptoBulkAll]
  omega
theorem X0a (l:List PkgT):(l.map fun p=>p.size+1).sum=Ig l:=by
 induction l with
 |nil=>rfl
 |cons d r ih=>simp only[List.map_cons,List.sum_cons,Ig,ih];omega
theorem X0w {fuel : Nat} {cs : List Value} {y : DataW H × List MemPlace} (h : DataW.trod enc Tryz.prog W 0 (fun _ => true) true fuel 39 cs = some y) :
  ∃(v:Value) (l:List PkgT),cs=[v]∧VR (ofF (Fb W)) (Ae 12 Av l) v∧Ig l+1≤Rows.uptoBulk y.1:=by
 obtain⟨v,l,h1,h2,h3⟩:=Mb (f:=Av) (size:=fun p=>p.size+1) Tryz.underlying39 (show Tryz.prog.cellsOf 38=12 by kernel_rfl) (by omega) (fun cs => .agg cs.toArray) (fun cs' _ _=>by simp[Value.cells]) (fun n cs' y _ _ hy=>by
  obtain⟨d,h1,h2⟩:=X0x hy
  exact⟨d,h1,h2⟩) h
 exact⟨v,l,h1,h2,by rw[X0a] at h3;exact h3⟩
set_option maxHeartbeats 1000000 in
set_option maxRecDepth 100000 in
theorem X0v {fuel:Nat} {cs:List Value} {x:DataW H × List MemPlace} (h:DataW.trod enc Tryz.prog W 0 (fun _=>true) true fuel 41 cs=some x):∃d:RepoT,(VR (ofF (Fb W)) (Bm d) (.agg cs.toArray)∧∀c∈cs,c.oneCell'=true)∧d.size+1≤Rows.uptoBulk x.1:=by
 obtain⟨xs,n,hf,rfl,hl,hxs,hfs⟩:=DataW.trod_struct Tryz.underlying41 h
 have hl':cs.length=4:=hl.trans (by kernel_rfl)
 match cs,hl' with
 |[c0,c1,c2,c3],_ =>
 match xs,hxs with
 |[y0,y1,y2,y3],_ =>
 have g0:DataW.trod enc Tryz.prog W 0 (fun _=>true) true n 9 [c0]=some y0:=by
  have g:DataW.trod enc Tryz.prog W 0 (fun _=>true) true n 9 (([c0,c1,c2,c3].drop 0).take (Tryz.prog.cellsOf 9))=some y0:=hfs 0 _ rfl
  rw[show Tryz.prog.cellsOf 9=1 by kernel_rfl] at g
  exact g
 have g1:DataW.trod enc Tryz.prog W 0 (fun _=>true) true n 3 [c1]=some y1:=by
  have g:DataW.trod enc Tryz.prog W 0 (fun _=>true) true n 3 (([c0,c1,c2,c3].drop 1).take (Tryz.prog.cellsOf 3))=some y1:=hfs 1 _ rfl
  rw[show Tryz.prog.cellsOf 3=1 by kernel_rfl] at g
  exact g
 have g2:DataW.trod enc Tryz.prog W 0 (fun _=>true) true n 4 [c2]=some y2:=by
  have g:DataW.trod enc Tryz.prog W 0 (fun _=>true) true n 4 (([c0,c1,c2,c3].drop 2).take (Tryz.prog.cellsOf 4))=some y2:=hfs 2 _ rfl
  rw[show Tryz.prog.cellsOf 4=1 by kernel_rfl] at g
  exact g
 have g3:DataW.trod enc Tryz.prog W 0 (fun _=>true) true n 39 [c3]=some y3:=by
  have g:DataW.trod enc Tryz.prog W 0 (fun _=>true) true n 39 (([c0,c1,c2,c3].drop 3).take (Tryz.prog.cellsOf 39))=some y3:=hfs 3 _ rfl
  rw[show Tryz.prog.cellsOf 39=1 by kernel_rfl] at g
  exact g
 obtain⟨s0,e0,rfl,_⟩:=DataW.trod_string Tryz.underlying9 g0
 obtain⟨s1,e1,rfl,_⟩:=DataW.trod_int Tryz.underlying3 g1
 obtain⟨s2,e2,rfl⟩:=DataW.trod_bool Tryz.underlying4 g2
 obtain⟨w3,s3,e3,r3,b3⟩:=X0w g3
 simp only[List.cons.injEq,and_true] at e0 e1 e2 e3
 subst e0 e1 e2 e3
 refine⟨⟨s0.data.toList,s1,s2,s3⟩,⟨?_,?_⟩,?_⟩
 ·unfold Bm
  simp only[VR]
  exact⟨_,.cons (by first|(simp only[VR];done)|(simp only[VR];exact Kj s0)) (.cons (by simp only[VR]) (.cons (by simp only[VR]) (.cons r3 (.nil)))),rfl⟩
 ·intro c hc
  simp only[List.mem_cons,List.not_mem_nil,or_false] at hc
  rcases hc with rfl|rfl|rfl|rfl
  ·exact rfl
  ·exact rfl
  ·exact rfl
  ·exact I4 r3
 ·simp only[RepoT.size,List.map_cons,List.map_nil,Rows.uptoBulk,Rows.uptoBulkAll]
  omega
theorem X0u {fuel : Nat} {cs : List Value} {y : DataW H × List MemPlace} (h : DataW.trod enc Tryz.prog W 0 (fun _ => true) true fuel 22 cs = some y) :
  ∃(v:Value) (l:List RepoT),cs=[v]∧VR (ofF (Fb W)) (Ae 4 Bm l) v∧(l.map RepoT.size).sum+1≤Rows.uptoBulk y.1 :=
 Mb (f:=Bm) (size:=RepoT.size) Tryz.underlying22 (show Tryz.prog.cellsOf 41=4 by kernel_rfl) (by omega) (fun cs => .agg cs.toArray) (fun cs' _ _=>by simp[Value.cells]) (fun n cs' y _ _ hy=>by
  obtain⟨d,h1,h2⟩:=X0v hy
  exact⟨d,h1,by omega⟩) h
theorem Q7e {l:List RepoT}:∀{i:Nat},i < l.length→(nth l i).size≤(l.map RepoT.size).sum:=by
 induction l with
 |nil=>intro i h;simp at h
 |cons r l ih =>
  intro i h
  cases i with
  |zero=>simp only[List.map_cons,List.sum_cons];show r.size≤_;omega
  |succ i =>
   have:=ih (i:=i) (by simpa using h)
   simp only[List.map_cons,List.sum_cons];show(nth l i).size≤_;omega
theorem Xa:∀l:List RepoT,l.length≤(l.map RepoT.size).sum
 |[]=>Nat.le_refl _
 |r::l=>by
  have:=Xa l
  have:1≤r.size:=by unfold RepoT.size;omega
  simp only[List.map_cons,List.sum_cons,List.length_cons];omega
set_option maxRecDepth 100000 in
theorem open_repos {r : Reach} {b0 : Nat} {v : Value} {d : DataW H} {p : List MemPlace} (hv : Value.okWide Tryz.prog W r b0 22 v) (h : DataW.Trod enc Tryz.prog W 0 (fun _ => true) true 22 v d p) :
  ∃l:List RepoT,VR (ofF (Fb W)) (Ae 4 Bm l) v∧l.length≤Rows.uptoBulk d∧∀i,i < l.length→(nth l i).size≤Rows.uptoBulk d:=by
 obtain⟨a,len,cap,rfl⟩:=Go.WideShapes.okWide_slice Tryz.underlying22 hv
 obtain⟨fuel,hf⟩:=h
 obtain⟨v,l,h1,h2,h3⟩:=X0u hf
 have e:Value.slice a len cap=v:=by simpa [Value.cells] using h1
 subst e
 have h3:(l.map RepoT.size).sum+1≤Rows.uptoBulk d:=h3
 exact⟨l,h2,by have:=Xa l;omega,fun i hi=>by have:=Q7e hi;omega⟩
set_option maxRecDepth 100000 in
theorem open_nums {r : Reach} {b0 : Nat} {v : Value} {d : DataW H} {p : List MemPlace} (hv : Value.okWide Tryz.prog W r b0 26 v) (h : DataW.Trod enc Tryz.prog W 0 (fun _ => true) true 26 v d p) :
  ∃l:List Int,VR (ofF (Fb W)) (Ah l) v∧l.length≤Rows.uptoBulk d∧∀i,i < l.length → -9223372036854775808≤nth l i∧nth l i≤9223372036854775807:=by
 obtain⟨a,len,cap,rfl⟩:=Go.WideShapes.okWide_slice Tryz.underlying26 hv
 obtain⟨fuel,hf⟩:=h
 obtain⟨v,l,h1,h2,h3,h4⟩:=X0y hf
 have e:Value.slice a len cap=v:=by simpa [Value.cells] using h1
 subst e
 have h3:l.length+1≤Rows.uptoBulk d:=h3
 exact⟨l,h2,by omega,h4⟩
end
end Sv
end
end Go.Proofs.YtlmloohlmlahfaaGreatDoor
