/- The texts S34, S35, S36, S37, S38, S39, S40, S41, DepV, NamV, Evr1, CmpV, EvrV, EvrW, PkgV, FormV, Pool1, RuneV, NextV, OneZ, ParseZ, PrintZ, Pool2 of the proof, joined. Each says at its theorems what it proves. -/
import Derived.Test.YtlamaeednbhjdaaGreatDoorV1
set_option linter.unusedSimpArgs false
set_option linter.unusedVariables false
namespace Go.Proofs.YtlamaeednbhjdaaGreatDoor
section
open Go Go.RowKit
namespace Sv
section
variable {P : Program} {n : Nat}
def HasI (s:Fr) (X:Operand) (k:IntKind) (a:Int):Prop:=evA s X=some (.int k a)∨∃q,evA s X=some (.cond q (.int k a))∧q=true
theorem HasI.get {φ:Phi} {σ:Nat→Value} {s:Fr} {X:Operand} {k:IntKind} {a:Int} (h:HasI s X k a) (hf:FRel φ n s σ):ev n σ X = .int k a:=by
 rcases h with h|⟨q,h,hq⟩
 ·have:=hf.ev _ _ h;simpa only [VR] using this
 ·have:=hf.ev _ _ h;simp only[VR] at this;exact this.1 hq
theorem Ph {dst:Option Tmp} {X Y:Operand} {t t' ty:TypeId} {ps:String} {af:Array Edge} {g:Option (Nat × Bool)} {s:Fr} {k:IntKind} {a b:Int} (hx:HasI s X k a) (hy:HasI s Y k b) (φ:Phi) (σ:Nat→Value) (h:FRel φ n s σ) :
  ∃v,(∀w,(execOp (ev n σ) ⟨dst,.binOp .and t X Y t',ty,ps,af,g⟩).run P w = .ok (.value v) w)∧VR φ (.int k (Go.bits .and k a b)) v:=by
 have h1:=hx.get h;have h2:=hy.get h;exact⟨.int k (Go.bits .and k a b),fun w=>by simp[execOp,h1,h2,go_sem],by simp only[VR]⟩
end
end Sv
end
section
open Go Go.RowKit
namespace Sv
structure Hint where
 i:Nat
 f:Nat
 al:List AV
 r:AV
 c:Bool
 q:Bool
def HOk (P:Program):List Hint→Prop
 |[]=>True
 |h::l=>(h.q=true→Ak P h.f∧FnV P h.f h.al h.r)∧HOk P l
theorem hk0 {P:Program}:HOk P []:=trivial
theorem hk {P:Program} (i:Nat) {f:Nat} {al:List AV} {r:AV} {l:List Hint} (he:Ak P f) (hf:FnV P f al r) (h:HOk P l):HOk P (⟨i,f,al,r,false,true⟩::l):=⟨fun _=>⟨he,hf⟩,h⟩
theorem hkg {P:Program} (i:Nat) (q:Bool) {f:Nat} {al:List AV} {r:AV} {l:List Hint} (he:Ak P f) (hf:q=true→FnV P f al r) (h:HOk P l):HOk P (⟨i,f,al,r,true,q⟩::l):=⟨fun k=>⟨he,hf k⟩,h⟩
noncomputable def O5:List Hint→Nat→Option Hint
 |[],_=>none
 |h::l,i=>bif Nat.beq h.i i then some h else O5 l i
theorem Vk {P:Program}:∀{l:List Hint} {i:Nat} {h:Hint},HOk P l→O5 l i=some h→h.q=true→Ak P h.f∧FnV P h.f h.al h.r
 |[],_,_,_,e,_=>by cases e
 |a::l,i,h,k,e,q=>by
  unfold O5 at e
  cases hb:Nat.beq a.i i with
  |true=>rw[hb] at e;cases e;exact k.1 q
  |false=>rw[hb] at e;exact Vk k.2 e q
def COk:List (Nat × Prop)→Prop
 |[]=>True
 |c::l=>c.2∧COk l
theorem c0:COk []:=trivial
theorem cc (i:Nat) {p:Prop} {l:List (Nat × Prop)} (h:p) (k:COk l):COk ((i,p)::l):=⟨h,k⟩
noncomputable def H7:List (Nat × Prop)→Nat→Prop
 |[],_=>True
 |c::l,i=>bif Nat.beq c.1 i then c.2 else H7 l i
theorem R4:∀{l:List (Nat × Prop)} (i:Nat),COk l→H7 l i
 |[],_,_=>trivial
 |c::l,i,k=>by
  unfold H7
  cases hb:Nat.beq c.1 i with
  |true=>exact k.1
  |false=>exact R4 i k.2
structure Conv where
 i:Nat
 t:Nat
 a:AV
 b:AV
def VOk:List Conv→Prop
 |[]=>True
 |v::l=>Imp v.a v.b∧VOk l
theorem v0:VOk []:=trivial
theorem vk (i t:Nat) {a b:AV} {l:List Conv} (h:Imp a b) (k:VOk l):VOk (⟨i,t,a,b⟩::l):=⟨h,k⟩
noncomputable def J3 (i:Nat):Option Prop→List (Nat × Prop)→List (Nat × Prop)
 |none,l=>l
 |some p,l=>(i,p)::l
noncomputable def U8 (q:Bool):Option Prop→Option Prop
 |none=>none
 |some p=>some (q=true→p)
noncomputable def We (n:Nat) (ops:Array Oper) (h:Hint) (o:Oper) (x:St):Option (St × Option Prop × List AV × Bool):=match o.op with
 |.call { callee:=.value (.func f),args:=ar,argTypes:=_ }=>bif Nat.beq f h.f then
   (bif h.c then (match H5 ops x.s o.guard with
    |some q=>match Dy (Ic ar.toList (evA x.s)) ar.toList with
     |some al=>bif frzl al then (match B7 n o.dst (.cond q h.r) x.s with
      |some s'=>some (⟨s',x.h,x.nx⟩,U8 q (El (evA x.s) ar.toList),al,q)
      |none=>none) else none
     |none=>none
    |none=>none)
   else bif Cy ops x.s o.guard then (match Dy (evA x.s) ar.toList with
     |some al=>bif frzl al then (match B7 n o.dst h.r x.s with
      |some s'=>some (⟨s',x.h,x.nx⟩,none,al,true)
      |none=>none) else none
     |none=>none) else none) else none
 |_=>none
noncomputable def G3 (i:Nat):List Conv→St→Option (St × List AV)
 |[],x=>some (x,[])
 |v::l,x=>bif Nat.beq v.i i then (match Cg v.t x.s with
   |some a=>match G3 i l ⟨Fs v.t v.b x.s,x.h,x.nx⟩ with
    |some (y,m)=>some (y,a::m)
    |none=>none
   |none=>none) else G3 i l x
noncomputable def G4 (i:Nat):List Conv→List AV
 |[]=>[]
 |v::l=>bif Nat.beq v.i i then v.a::G4 i l else G4 i l
noncomputable def Hz (P:Program) (i:Nat):List (Nat × Nat)→St→Option St
 |[],x=>some x
 |t::l,x=>bif Nat.beq t.1 i then (match N5 P t.2 x with
   |some y=>Hz P i l y
   |none=>none) else Hz P i l x
noncomputable def Mi (P:Program) (n:Nat) (ops:Array Oper) (lz:List Nat) (H:List Hint) (i:Nat) (o:Oper) (x:St):Option (St × Option Prop × Option (List AV × Bool)):=match O5 H i with
 |none=>match Kc P n ops lz o x with
  |some (y,C)=>some (y,C,none)
  |none=>none
 |some h=>match We n ops h o x with
  |some (y,C,A)=>some (y,C,some A)
  |none=>none
noncomputable def Nq (i:Nat) (A:Option (List AV × Bool)) (l:List (Nat × List AV × Bool)):List (Nat × List AV × Bool):=match A with
 |none=>l
 |some a=>(i,a)::l
noncomputable def H4 (H:List Hint) (i:Nat):List AV × Bool:=match O5 H i with
 |some h=>(h.al,h.q)
 |none=>([],false)
section
variable {P : Program} {B : Bas} {w : World} {F F0 : Cx} {n : Nat} {φ : Phi} {σ : Nat → Value} {K : Exit → St → Prop} {KK : St → Prop} {x y : St} {E : Bool} {ops : Array Oper} {fuel : Nat} {listed : Array Bool} {H : List Hint} {lz : List Nat} {i : Nat} {o : Oper} {C : Option Prop} {A : Option (List AV × Bool)}
theorem Q5j {h:Hint} {al:List AV} {q:Bool} (hc:We n ops h o x=some (y,C,al,q)):∃dst ty ps af g ar ts s',o=⟨dst,.call { callee:=.value (.func h.f),args:=ar,argTypes:=ts },ty,ps,af,g⟩∧frzl al=true∧y=⟨s',x.h,x.nx⟩ ∧
  ((H5 ops x.s g=some q∧Dy (Ic ar.toList (evA x.s)) ar.toList=some al∧B7 n dst (.cond q h.r) x.s=some s'∧C=U8 q (El (evA x.s) ar.toList)) ∨
  (Cy ops x.s g=true∧Dy (evA x.s) ar.toList=some al∧B7 n dst h.r x.s=some s'∧q=true)):=by
 obtain⟨dst,op,ty,ps,af,g⟩:=o;unfold We at hc;split at hc
 ·rename_i f ar ts hop;simp only at hop hc;subst hop
  cases hb:Nat.beq f h.f with
  |false=>rw[hb] at hc;cases hc
  |true =>
   have hf:=Nat.eq_of_beq_eq_true hb;rw[hb,cond_true] at hc
   cases hcc:h.c with
   |true =>
    rw[hcc,cond_true] at hc;split at hc
    ·rename_i q' hg;split at hc
     ·rename_i al' hal
      cases hz:frzl al' with
      |false=>rw[hz] at hc;cases hc
      |true =>
       rw[hz,cond_true] at hc;split at hc
       ·rename_i s' hp;simp only[Option.some.injEq,Prod.mk.injEq] at hc;obtain⟨rfl,rfl,rfl,rfl⟩:=hc;exact⟨_,_,_,_,_,_,_,_,by rw[hf],hz,rfl,.inl ⟨hg,hal,hp,rfl⟩⟩
       ·cases hc
     ·cases hc
    ·cases hc
   |false =>
    rw[hcc,cond_false] at hc
    cases hg:Cy ops x.s g with
    |false=>rw[hg] at hc;cases hc
    |true =>
     rw[hg,cond_true] at hc;split at hc
     ·rename_i al' hal
      cases hz:frzl al' with
      |false=>rw[hz] at hc;cases hc
      |true =>
       rw[hz,cond_true] at hc;split at hc
       ·rename_i s' hp;simp only[Option.some.injEq,Prod.mk.injEq] at hc;obtain⟨rfl,rfl,rfl,rfl⟩:=hc;exact⟨_,_,_,_,_,_,_,_,by rw[hf],hz,rfl,.inr ⟨hg,hal,hp,rfl⟩⟩
       ·cases hc
     ·cases hc
 ·cases hc
theorem Q2i {q:Bool} {c:Option Prop} (h:Bk (U8 q c)) (k:q=true):Bk c:=by
 cases c with
 |none=>trivial
 |some p=>exact h k
theorem Y2h {rest:List Oper} {dst:Option Tmp} {op:Op} {ty:TypeId} {ps:String} {af:Array Edge} {g:Option (Nat × Bool)} {r:AV} {s':Fr} (hg:H5 ops x.s g=some false) (hp:B7 n dst (.cond false r) x.s=some s') (next:SO P n ops rest B F K ⟨s',x.h,x.nx⟩):SO P n ops (⟨dst,op,ty,ps,af,g⟩::rest) B F K x:=by
 unfold SO at next ⊢;intro φ σ w hx;exact E5 (Lq hx.fr hg) (next φ _ w ⟨hx.fr.put hp J6,hx.rel,hx.dom,hx.old,hx.new,hx.base⟩)
theorem Q89 {rest:List Oper} (hc:Mi P n ops lz H i o x=some (y,C,A)) (hC:Bk C) (hH:HOk P H) (hA:∀a,A=some a→a=H4 H i) (next:SO P n ops rest B F K y):SO P n ops (o::rest) B F K x:=by
 unfold Mi at hc;split at hc
 ·split at hc
  ·rename_i z D hz;cases hc;intro φ σ w hx;exact Tu hx hz hC fun φ' σ' w' hh e=>next φ' σ' w' hh
  ·cases hc
 ·rename_i h hh;split at hc
  ·rename_i z D a hz;cases hc;obtain⟨al,q⟩:=a;have ha:=hA _ rfl;unfold H4 at ha;rw[hh] at ha;simp only[Prod.mk.injEq] at ha;have hok:=Vk hH hh;rw[←ha.1,←ha.2] at hok;obtain⟨dst,ty,ps,af,g,ar,ts,s',rfl,hf,rfl,⟨h1,h2,h3,rfl⟩|⟨h1,h2,h3,rfl⟩⟩:=Q5j hz
   ·cases q with
    |true=>exact Y2o h1 (hok rfl).1 h2 (Q2i hC) hf (fun _=>(hok rfl).2) h3 next
    |false=>exact Y2h h1 h3 next
   ·exact K2 h1 (hok rfl).1 h2 hf (hok rfl).2 h3 next
  ·cases hc
theorem Y2s (i:Nat) {dst:Option Tmp} {op:Op} {ty:TypeId} {ps:String} {af:Array Edge} {g:Option (Nat × Bool)} {r:AV} {s':Fr} (hi:ops[i]? = some ⟨dst,op,ty,ps,af,g⟩) (hg:H5 ops x.s g=some false) (hp:B7 n dst (.cond false r) x.s=some s')
  (next:SG P n ops B F KK F0 false fuel (listed.setIfInBounds i true) ⟨s',x.h,x.nx⟩):SN P n ops B F KK F0 E fuel listed i x:=by
 intro φ σ w hx hE;refine⟨_,hi,?_⟩;unfold SG at next
 have hh':Holds B F0 n ⟨s',x.h,x.nx⟩ φ (Bq σ dst undef) w:=⟨hx.fr.put hp J6,hx.rel,hx.dom,hx.old,hx.new,hx.base⟩
 exact E5 (Lq hx.fr hg) (Bi ⟨rfl,hh'.hold,next _ _ _ hh' (fun q=>by cases q)⟩)
theorem Q9a (hi:ops[i]? = some o) (hc:Mi P n ops lz H i o x=some (y,C,A)) (hC:Bk C) (hH:HOk P H) (hA:∀a,A=some a→a=H4 H i) (next:SG P n ops B F KK F0 (E&&A.isNone) fuel (listed.setIfInBounds i true) y):SN P n ops B F KK F0 E fuel listed i x:=by
 unfold Mi at hc;split at hc
 ·split at hc
  ·rename_i z D hz;cases hc;rw[show(E&&(none:Option (List AV × Bool)).isNone)=E by simp] at next;exact Q68 i lz hi hz hC next
  ·cases hc
 ·rename_i h hh;split at hc
  ·rename_i z D a hz;cases hc;rw[show(E&&(some a).isNone)=false by simp] at next;obtain⟨al,q⟩:=a;have ha:=hA _ rfl;unfold H4 at ha;rw[hh] at ha;simp only[Prod.mk.injEq] at ha;have hok:=Vk hH hh;rw[←ha.1,←ha.2] at hok;obtain⟨dst,ty,ps,af,g,ar,ts,s',rfl,hf,rfl,⟨h1,h2,h3,rfl⟩|⟨h1,h2,h3,rfl⟩⟩:=Q5j hz
   ·cases q with
    |true=>exact Y2u i hi h1 (hok rfl).1 h2 (Q2i hC) hf (fun _=>(hok rfl).2) h3 next
    |false=>exact Y2s i hi h1 h3 next
   ·exact Y2v i hi h1 (hok rfl).1 h2 hf (hok rfl).2 h3 next
  ·cases hc
noncomputable def Ew (P:Program) (n:Nat) (ops:Array Oper) (lz:List Nat) (H:List Hint) (V:List Conv) (T:List (Nat × Nat)):Nat→List Oper→St→Option (St × List (Nat × Prop) × List (Nat × List AV × Bool) × List (Nat × List AV))
 |_,[],x=>some (x,[],[],[])
 |i,o::l,x=>match Hz P i T x with
  |some x0=>match G3 i V x0 with
   |some (x1,m)=>match Mi P n ops lz H i o x1 with
    |some (y,C,A)=>match Ew P n ops lz H V T (i+1) l y with
     |some (z,cs,ms,vs)=>some (z,J3 i C cs,Nq i A ms,(i,m)::vs)
     |none=>none
    |none=>none
   |none=>none
  |none=>none
def L7 (H:List Hint) (V:List Conv) (CS:List (Nat × Prop)) (cs:List (Nat × Prop)) (ms:List (Nat × List AV × Bool)) (vs:List (Nat × List AV)):Prop :=
 (∀c∈cs,c.2=H7 CS c.1)∧(∀a∈ms,a.2=H4 H a.1)∧∀v∈vs,v.2=G4 v.1 V
theorem Ts {j:Nat} {l:List Oper}:∀{T:List (Nat × Nat)} {x y:St},Hz P j T x=some y→SO P n ops l B F K y→SO P n ops l B F K x
 |[],x,y,h,k=>by cases h;exact k
 |t::r,x,y,h,k=>by
  unfold Hz at h
  cases hb:Nat.beq t.1 j with
  |false=>rw[hb,cond_false] at h;exact Ts h k
  |true =>
   rw[hb,cond_true] at h;split at h
   ·rename_i z hz;exact Wz _ hz (Ts h k)
   ·cases h
theorem Wa {j:Nat} {l:List Oper}:∀{V:List Conv} {x y:St} {m:List AV},VOk V→G3 j V x=some (y,m)→m=G4 j V→SO P n ops l B F K y→SO P n ops l B F K x
 |[],x,y,m,_,h,_,k=>by cases h;exact k
 |v::r,x,y,m,hV,h,hm,k=>by
  unfold G3 at h;unfold G4 at hm
  cases hb:Nat.beq v.i j with
  |false=>rw[hb,cond_false] at h hm;exact Wa hV.2 h hm k
  |true =>
   rw[hb,cond_true] at h hm;split at h
   ·rename_i a ha;split at h
    ·rename_i z m' hz;cases h;simp only[List.cons.injEq] at hm;exact F5 _ _ ha (by rw[hm.1];exact hV.1) (Wa hV.2 hz hm.2 k)
    ·cases h
   ·cases h
theorem Yx {V:List Conv} {T:List (Nat × Nat)} {CS:List (Nat × Prop)} (hH:HOk P H) (hV:VOk V) (hCS:COk CS):∀{l rest:List Oper} {i:Nat} {x y:St} {cs:List (Nat × Prop)} {ms:List (Nat × List AV × Bool)} {vs:List (Nat × List AV)},
  Ew P n ops lz H V T i l x=some (y,cs,ms,vs)→L7 H V CS cs ms vs→SO P n ops rest B F K y→SO P n ops (l++rest) B F K x
 |[],rest,i,x,y,cs,ms,vs,h,_,k=>by cases h;exact k
 |o::l,rest,i,x,y,cs,ms,vs,h,hf,k=>by
  unfold Ew at h;split at h
  ·rename_i x0 h0;split at h
   ·rename_i x1 m h1;split at h
    ·rename_i z C A hz;split at h
     ·rename_i u cs' ms' vs' hr;simp only[Option.some.injEq,Prod.mk.injEq] at h;obtain⟨rfl,rfl,rfl,rfl⟩:=h;obtain⟨f1,f2,f3⟩:=hf
      have hC:Bk C:=by
       cases C with
       |none=>trivial
       |some p =>
        have e:p=H7 CS i:=f1 (i,p) (by simp[J3]);show p;rw[e];exact R4 i hCS
      have hA:∀a,A=some a→a=H4 H i:=by
       rintro a rfl;exact f2 (i,a) (by simp[Nq])
      have f':L7 H V CS cs' ms' vs':=by
       refine⟨fun c hc=>f1 c ?_,fun a ha=>f2 a ?_,fun v hv=>f3 v (by simp[hv])⟩
       ·cases C<;>simp[J3,hc]
       ·cases A<;>simp[Nq,ha]
      exact Ts h0 (Wa hV h1 (f3 (i,m) (by simp)) (Q89 hz hC hH hA (Yx hH hV hCS hr f' k)))
     ·cases h
    ·cases h
   ·cases h
  ·cases h
noncomputable def Fl (ts:List Nat) (r:Option (St × List (Nat × Prop) × List (Nat × List AV × Bool) × List (Nat × List AV))):Option (St × List (Nat × Prop) × List (Nat × List AV × Bool) × List (Nat × List AV)):=match r with
 |some (y,q)=>match Gt ts y.s with
  |some s=>some (⟨s,y.h,y.nx⟩,q)
  |none=>none
 |none=>none
noncomputable def stO (r:Option (St × List (Nat × Prop) × List (Nat × List AV × Bool) × List (Nat × List AV))):St:=match r with
 |some (y,_)=>y
 |none=>⟨[],[],0⟩
noncomputable def K7 (H:List Hint) (V:List Conv) (CS:List (Nat × Prop)) (r:Option (St × List (Nat × Prop) × List (Nat × List AV × Bool) × List (Nat × List AV))):Option (List (Nat × Prop) × List (Nat × List AV × Bool) × List (Nat × List AV)):=match r with
 |some (_,cs,ms,vs)=>some (cs.map fun c=>(c.1,H7 CS c.1),ms.map fun a=>(a.1,H4 H a.1),vs.map fun v=>(v.1,G4 v.1 V))
 |none=>some ([],[(0,[],true)],[])
noncomputable def Lx (r:Option (St × List (Nat × Prop) × List (Nat × List AV × Bool) × List (Nat × List AV))):Option (List (Nat × Prop) × List (Nat × List AV × Bool) × List (Nat × List AV)):=match r with
 |some (_,q)=>some q
 |none=>none
theorem Mz {α β:Type} {l:List (α × β)} {f:α→β} (h:l=l.map fun c=>(c.1,f c.1)):∀c∈l,c.2=f c.1:=by
 intro c hc;rw[h] at hc;obtain⟨d,_,rfl⟩:=List.mem_map.1 hc;rfl
theorem Q8o {V:List Conv} {CS:List (Nat × Prop)} {r:Option (St × List (Nat × Prop) × List (Nat × List AV × Bool) × List (Nat × List AV))} (h:Lx r=K7 H V CS r):∃y cs ms vs,r=some (y,cs,ms,vs)∧L7 H V CS cs ms vs:=by
 cases r with
 |none=>cases h
 |some q =>
  obtain⟨y,cs,ms,vs⟩:=q;simp only[Lx,K7,Option.some.injEq,Prod.mk.injEq] at h;exact⟨y,cs,ms,vs,rfl,Mz (f:=H7 CS) h.1,Mz (f:=H4 H) h.2.1,Mz (f:=fun j=>G4 j V) h.2.2⟩
theorem Bm {V:List Conv} {CS:List (Nat × Prop)} {l:List Oper} (k i:Nat) (lz ts:List Nat) (T:List (Nat × Nat)) (hH:HOk P H) (hV:VOk V) (hCS:COk CS) (next:SO P n ops (l.drop k) B F K (stO (Fl ts (Ew P n ops lz H V T i (l.take k) x))))
  (h:Lx (Fl ts (Ew P n ops lz H V T i (l.take k) x))=K7 H V CS (Fl ts (Ew P n ops lz H V T i (l.take k) x)):=by kernel_rfl):SO P n ops l B F K x:=by
 obtain⟨y,cs,ms,vs,hr,hf⟩:=Q8o h;rw[hr] at next;unfold Fl at hr;split at hr
 ·rename_i z q hz;split at hr
  ·rename_i s hs;simp only[Option.some.injEq,Prod.mk.injEq] at hr;obtain⟨rfl,rfl⟩:=hr;have:=Yx (rest:=l.drop k) hH hV hCS hz hf (fun φ σ w hx=>next φ σ w (hx.sel hs));rwa [List.take_append_drop] at this
  ·cases hr
 ·cases hr
theorem Av {V:List Conv} {CS:List (Nat × Prop)} {l:List Oper} (i:Nat) (lz ts:List Nat) (T:List (Nat × Nat)) (hH:HOk P H) (hV:VOk V) (hCS:COk CS) (next:K .normal (stO (Fl ts (Ew P n ops lz H V T i l x))))
  (h:Lx (Fl ts (Ew P n ops lz H V T i l x))=K7 H V CS (Fl ts (Ew P n ops lz H V T i l x)):=by kernel_rfl):SO P n ops l B F K x:=by
 refine Bm l.length i lz ts T hH hV hCS ?_ ?_
 ·rw[List.take_length,List.drop_length];exact Br next
 ·rw[List.take_length];exact h
theorem Dd {l:List Oper} (lz ts:List Nat) (next:K .normal (stO (Fl ts (Ew P n ops lz [] [] [] 0 l x)))) (h:Lx (Fl ts (Ew P n ops lz [] [] [] 0 l x))=K7 [] [] [] (Fl ts (Ew P n ops lz [] [] [] 0 l x)):=by kernel_rfl):SO P n ops l B F K x:=Av 0 lz ts [] hk0 v0 c0 next h
theorem Ad {V:List Conv} {CS:List (Nat × Prop)} {id:Nat} {l:List Oper} {d:Code} (lz ts:List Nat) (T:List (Nat × Nat)) (hH:HOk P H) (hV:VOk V) (hCS:COk CS) (next:SW P n d B F K (stO (Fl ts (Ew P n l.toArray lz H V T 0 l x))))
  (h:Lx (Fl ts (Ew P n l.toArray lz H V T 0 l x))=K7 H V CS (Fl ts (Ew P n l.toArray lz H V T 0 l x)):=by kernel_rfl):SW P n (.seq (.region id l.toArray false) d) B F K x:=Ab (An (Av 0 lz ts T hH hV hCS next h))
theorem Aa {id:Nat} {l:List Oper} {d:Code} (lz ts:List Nat) (next:SW P n d B F K (stO (Fl ts (Ew P n l.toArray lz [] [] [] 0 l x)))) (h:Lx (Fl ts (Ew P n l.toArray lz [] [] [] 0 l x))=K7 [] [] [] (Fl ts (Ew P n l.toArray lz [] [] [] 0 l x)):=by kernel_rfl) :
  SW P n (.seq (.region id l.toArray false) d) B F K x:=Ad lz ts [] hk0 v0 c0 next h
end
theorem Ai:(∀a b:Bool,((a&&b)=true)=(a=true∧b=true))∧(∀a b:Bool,((a||b)=true)=(a=true∨b=true))∧(∀x y:Bool,((x&&y)=false)=(x=false∨y=false))∧(∀x y:Bool,((x||y)=false)=(x=false∧y=false))∧(∀b:Bool,((!b)=true)=(b=false))∧(∀b:Bool,((!b)=false)=(b=true))∧(∀(p:Prop) [Decidable p],(decide p=true)=p)∧(∀(p:Prop) [Decidable p],(decide p=false) = ¬p) :=
 ⟨fun a b=>by simp,fun a b=>by simp,fun x y=>by cases x<;>simp,fun a b=>by simp,fun b=>by simp,fun b=>by simp,fun p _=>by simp,fun p _=>by simp⟩
end Sv
end
section
open Go Go.RowKit
namespace Sv
abbrev K3:=List St × List (Nat × Prop) × List (Nat × List AV × Bool) × List (Nat × List AV)
noncomputable def noT (i:Nat):List (Nat × Nat)→Bool
 |[]=>true
 |t::l => !Nat.beq t.1 i&&noT i l
noncomputable def Q5i:Op→Bool
 |.call { callee:=.value _,args:=_,argTypes:=_ }=>true
 |_=>false
noncomputable def Jw (P:Program) (E:Bool) (n:Nat) (ops:Array Oper) (lz:List Nat) (V:List Conv) (T:List (Nat × Nat)) (listed:Array Bool) (x:St):List Nat→Option (Nat × List AV × St × Option Prop)
 |[]=>none
 |i::l=>bif Region.free .any ops listed i&&noT i T then (match ops[i]? with
  |some o=>bif Q5i o.op then Jw P E n ops lz V T listed x l else (match G3 i V x with
   |some (x1,m)=>match Mj P E n ops lz o x1 with
    |some (y,C)=>some (i,m,y,C)
    |none=>Jw P E n ops lz V T listed x l
   |none=>Jw P E n ops lz V T listed x l)
  |none=>Jw P E n ops lz V T listed x l) else Jw P E n ops lz V T listed x l
noncomputable def Sh (f:Nat→Option K3):List Nat→Option K3
 |[]=>some ([],[],[],[])
 |i::l=>match f i with
  |some (a,b,c,d)=>match Sh f l with
   |some (a',b',c',d')=>some (a++a',b++b',c++c',d++d')
   |none=>none
  |none=>none
noncomputable def Hj (P:Program) (n:Nat) (ops:Array Oper) (lz ts:List Nat) (H:List Hint) (V:List Conv) (T:List (Nat × Nat)):Nat→Bool→Array Bool→St→Option K3
 |0,E,listed,x=>match Region.ready .any ops listed with
  |[]=>match Gt ts x.s with
   |some s=>some ([⟨s,x.h,x.nx⟩],[],[],[])
   |none=>none
  |_::_=>none
 |fuel+1,E,listed,x=>match Region.ready .any ops listed with
  |[]=>match Gt ts x.s with
   |some s=>some ([⟨s,x.h,x.nx⟩],[],[],[])
   |none=>none
  |a::l=>match Jw P E n ops lz V T listed x (a::l) with
   |some (i,m,y,C)=>match Hj P n ops lz ts H V T fuel E (listed.setIfInBounds i true) y with
    |some (fs,cs,ms,vs)=>some (fs,J3 i C cs,ms,(i,m)::vs)
    |none=>none
   |none=>Sh (fun i=>match ops[i]? with
    |some o=>match Hz P i T x with
     |some x0=>match G3 i V x0 with
      |some (x1,m)=>match Mi P n ops lz H i o x1 with
       |some (y,C,A)=>match Hj P n ops lz ts H V T fuel (E&&noT i T&&A.isNone) (listed.setIfInBounds i true) y with
        |some (fs,cs,ms,vs)=>some (fs,J3 i C cs,Nq i A ms,(i,m)::vs)
        |none=>none
       |none=>none
      |none=>none
     |none=>none
    |none=>none) (a::l)
section
variable {P : Program} {B : Bas} {w : World} {F F0 : Cx} {n : Nat} {φ : Phi} {σ : Nat → Value} {K : Exit → St → Prop} {KK : St → Prop} {x y : St} {E : Bool} {ops : Array Oper} {fuel : Nat} {listed : Array Bool} {H : List Hint} {V : List Conv} {T : List (Nat × Nat)} {CS : List (Nat × Prop)} {lz ts : List Nat} {i : Nat} {o : Oper} {C : Option Prop} {A : Option (List AV × Bool)}
theorem X4 {j:Nat}:∀{T:List (Nat × Nat)} {x y:St},Hz P j T x=some y→noT j T=true→y=x
 |[],x,y,h,_=>by cases h;rfl
 |t::r,x,y,h,k=>by
  unfold noT at k;simp only[Bool.and_eq_true,Bool.not_eq_true'] at k;unfold Hz at h;rw[k.1,cond_false] at h;exact X4 h k.2
theorem Tr {j:Nat}:∀{T:List (Nat × Nat)} {x y:St} {φ:Phi},Hz P j T x=some y→Holds B F n x φ σ w→∃φ',Holds B F n y φ' σ w
 |[],x,y,φ,h,hx=>by cases h;exact⟨φ,hx⟩
 |t::l,x,y,φ,h,hx=>by
  unfold Hz at h
  cases hb:Nat.beq t.1 j with
  |false=>rw[hb,cond_false] at h;exact Tr h hx
  |true =>
   rw[hb,cond_true] at h;split at h
   ·rename_i z hz;obtain⟨φ',h'⟩:=hx.still hz;exact Tr h h'
   ·cases h
theorem Sj {j:Nat}:∀{V:List Conv} {x y:St} {m:List AV},VOk V→G3 j V x=some (y,m)→m=G4 j V→Holds B F n x φ σ w→Holds B F n y φ σ w
 |[],x,y,m,_,h,_,hx=>by cases h;exact hx
 |v::l,x,y,m,hV,h,hm,hx=>by
  unfold G3 at h;unfold G4 at hm
  cases hb:Nat.beq v.i j with
  |false=>rw[hb,cond_false] at h hm;exact Sj hV.2 h hm hx
  |true =>
   rw[hb,cond_true] at h hm;split at h
   ·rename_i a ha;split at h
    ·rename_i z m' hz;cases h;simp only[List.cons.injEq] at hm;exact Sj hV.2 hz hm.2 (hx.conv ha (by rw[hm.1];exact hV.1))
    ·cases h
   ·cases h
theorem Q3d:∀{l:List Nat} {i:Nat} {m:List AV} {y:St} {C:Option Prop},Jw P E n ops lz V T listed x l=some (i,m,y,C)→i∈l∧Region.free .any ops listed i=true∧∃o x1,ops[i]? = some o∧G3 i V x=some (x1,m)∧Mj P E n ops lz o x1=some (y,C)
 |[],i,m,y,C,h=>by cases h
 |a::l,i,m,y,C,h=>by
  have more:Jw P E n ops lz V T listed x l=some (i,m,y,C)→i∈a::l∧Region.free .any ops listed i=true∧∃o x1,ops[i]? = some o∧G3 i V x=some (x1,m)∧Mj P E n ops lz o x1=some (y,C):=fun k=>by
   obtain⟨k1,k2⟩:=Q3d k;exact⟨List.mem_cons_of_mem _ k1,k2⟩
  unfold Jw at h
  cases hb:Region.free .any ops listed a&&noT a T with
  |false=>rw[hb,cond_false] at h;exact more h
  |true =>
   rw[hb,cond_true] at h;simp only[Bool.and_eq_true] at hb;split at h
   ·rename_i o ho
    cases hk:Q5i o.op with
    |true=>rw[hk,cond_true] at h;exact more h
    |false =>
     rw[hk,cond_false] at h;split at h
     ·rename_i x1 m1 hx1;split at h
      ·rename_i y1 C1 hy1;simp only[Option.some.injEq,Prod.mk.injEq] at h;obtain⟨rfl,rfl,rfl,rfl⟩:=h;exact⟨List.mem_cons_self,hb.1,o,x1,ho,hx1,hy1⟩
      ·exact more h
     ·exact more h
   ·exact more h
theorem Q40 {f:Nat→Option K3}:∀{l:List Nat} {a:List St} {b:List (Nat × Prop)} {c:List (Nat × List AV × Bool)} {d:List (Nat × List AV)},Sh f l=some (a,b,c,d) →
  ∀i∈l,∃a' b' c' d',f i=some (a',b',c',d')∧(∀y∈a',y∈a)∧(∀y∈b',y∈b)∧(∀y∈c',y∈c)∧∀y∈d',y∈d
 |[],a,b,c,d,h,i,hi=>by cases hi
 |j::l,a,b,c,d,h,i,hi=>by
  unfold Sh at h;split at h
  ·rename_i a1 b1 c1 d1 h1;split at h
   ·rename_i a2 b2 c2 d2 h2;simp only[Option.some.injEq,Prod.mk.injEq] at h;obtain⟨rfl,rfl,rfl,rfl⟩:=h;rcases List.mem_cons.1 hi with rfl|hi
    ·exact⟨a1,b1,c1,d1,h1,fun y hy=>List.mem_append_left _ hy,fun y hy=>List.mem_append_left _ hy,fun y hy=>List.mem_append_left _ hy,fun y hy=>List.mem_append_left _ hy⟩
    ·obtain⟨a',b',c',d',k1,k2,k3,k4,k5⟩:=Q40 h2 i hi;exact⟨a',b',c',d',k1,fun y hy=>List.mem_append_right _ (k2 y hy),fun y hy=>List.mem_append_right _ (k3 y hy),fun y hy=>List.mem_append_right _ (k4 y hy),fun y hy=>List.mem_append_right _ (k5 y hy)⟩
   ·cases h
  ·cases h
theorem Y2z {l:List Nat} (hr:Region.ready .any ops listed=l) (hl:l≠[]) (h:∀i∈l,SN P n ops B F KK F0 E fuel listed i x):SG P n ops B F KK F0 E (fuel+1) listed x:=by
 unfold SG;intro φ σ w hx hE;exact Sw hr hl fun k hk=>h k hk φ σ w hx hE
theorem Y20 {m:List AV} (hV:VOk V) (h:G3 i V x=some (y,m)) (hm:m=G4 i V) (k:SG P n ops B F KK F0 E fuel listed y):SG P n ops B F KK F0 E fuel listed x:=by
 unfold SG at k ⊢;exact fun φ σ w hx hE=>k φ σ w (Sj hV h hm hx) hE
theorem Y2t {m:List AV} {j:Nat} (hV:VOk V) (h:G3 j V x=some (y,m)) (hm:m=G4 j V) (k:SN P n ops B F KK F0 E fuel listed i y):SN P n ops B F KK F0 E fuel listed i x :=
 fun φ σ w hx hE=>k φ σ w (Sj hV h hm hx) hE
theorem Y2r {j:Nat} (h:Hz P j T x=some y) (k:SN P n ops B F KK F0 (E&&noT j T) fuel listed i y):SN P n ops B F KK F0 E fuel listed i x:=by
 intro φ σ w hx hE
 cases hn:noT j T with
 |true =>
  have:=X4 h hn;subst this;rw[hn,Bool.and_true] at k;exact k φ σ w hx hE
 |false =>
  rw[hn,Bool.and_false] at k;obtain⟨φ',h'⟩:=Tr h hx;obtain⟨o,h1,h2⟩:=k φ' σ w h' (fun q=>by cases q);exact⟨o,h1,h2⟩
theorem X2i (hs:Region.noSelect ops=true) (hH:HOk P H) (hV:VOk V) (hCS:COk CS):∀{fuel:Nat} {E:Bool} {listed:Array Bool} {x:St} {fs:List St} {cs:List (Nat × Prop)} {ms:List (Nat × List AV × Bool)} {vs:List (Nat × List AV)},
  Hj P n ops lz ts H V T fuel E listed x=some (fs,cs,ms,vs)→L7 H V CS cs ms vs→(∀y∈fs,KK y)→SG P n ops B F KK F0 E fuel listed x:=by
 have fin:∀{fuel:Nat} {E:Bool} {listed:Array Bool} {x:St} {fs:List St} {cs:List (Nat × Prop)} {ms:List (Nat × List AV × Bool)} {vs:List (Nat × List AV)},Region.ready .any ops listed=[] →
   (match Gt ts x.s with|some s=>some (([⟨s,x.h,x.nx⟩],[],[],[]):K3)|none=>none)=some (fs,cs,ms,vs)→(∀y∈fs,KK y)→SG P n ops B F KK F0 E fuel listed x:=by
  intro fuel E listed x fs cs ms vs hr h hk;split at h
  ·rename_i s hsel;simp only[Option.some.injEq,Prod.mk.injEq] at h;obtain⟨rfl,_⟩:=h;exact W2 ts hsel (Hy hr (hk _ (by simp)))
  ·cases h
 intro fuel
 induction fuel with
 |zero =>
  intro E listed x fs cs ms vs h hf hk;unfold Hj at h;split at h
  ·rename_i hr;exact fin hr h hk
  ·cases h
 |succ fuel ih =>
  intro E listed x fs cs ms vs h hf hk;unfold Hj at h;split at h
  ·rename_i hr;exact fin hr h hk
  ·rename_i a l hr;obtain⟨f1,f2,f3⟩:=hf;split at h
   ·rename_i i m y C hfi;split at h
    ·rename_i fs' cs' ms' vs' hrec;simp only[Option.some.injEq,Prod.mk.injEq] at h;obtain⟨rfl,rfl,rfl,rfl⟩:=h;obtain⟨hi,hfree,o,x1,ho,hx1,hy⟩:=Q3d hfi
     have hC:Bk C:=by
      cases C with
      |none=>trivial
      |some p =>
       have e:p=H7 CS i:=f1 (i,p) (by simp[J3]);show p;rw[e];exact R4 i hCS
     have f':L7 H V CS cs' ms' vs':=by
      refine⟨fun c hc=>f1 c ?_,f2,fun v hv=>f3 v (by simp[hv])⟩;cases C<;>simp[J3,hc]
     exact Y20 hV hx1 (f3 (i,m) (by simp)) (Q7a i lz ho hs hfree (by rw[hr];simpa using hi) hy hC (ih hrec f' hk))
    ·cases h
   ·refine Y2z hr (by simp) fun i hi=>?_;obtain⟨fs1,cs1,ms1,vs1,h1,g1,g2,g3,g4⟩:=Q40 h i hi;split at h1
    ·rename_i o ho;split at h1
     ·rename_i x0 hx0;split at h1
      ·rename_i x1 m hx1;split at h1
       ·rename_i y C A hy;split at h1
        ·rename_i fs' cs' ms' vs' hrec;simp only[Option.some.injEq,Prod.mk.injEq] at h1;obtain⟨rfl,rfl,rfl,rfl⟩:=h1
         have hC:Bk C:=by
          cases C with
          |none=>trivial
          |some p =>
           have e:p=H7 CS i:=f1 (i,p) (g2 _ (by simp[J3]));show p;rw[e];exact R4 i hCS
         have hA:∀a,A=some a→a=H4 H i:=by
          rintro a rfl;exact f2 (i,a) (g3 _ (by simp[Nq]))
         have f':L7 H V CS cs' ms' vs':=by
          refine⟨fun c hc=>f1 c (g2 _ ?_),fun a ha=>f2 a (g3 _ ?_),fun v hv=>f3 v (g4 _ (by simp[hv]))⟩
          ·cases C<;>simp[J3,hc]
          ·cases A<;>simp[Nq,ha]
         exact Y2r hx0 (Y2t hV hx1 (f3 (i,m) (g4 _ (by simp))) (Q9a ho hy hC hH hA (ih hrec f' fun y hy=>hk y (g1 y hy))))
        ·cases h1
       ·cases h1
      ·cases h1
     ·cases h1
    ·cases h1
noncomputable def stD (r:Option K3):St:=match r with
 |some (y::_,_)=>y
 |_=>⟨[],[],0⟩
noncomputable def Ti (H:List Hint) (V:List Conv) (CS:List (Nat × Prop)) (r:Option K3):Option K3:=match r with
 |some (fs,cs,ms,vs)=>some (fs.map fun _=>stD r,cs.map fun c=>(c.1,H7 CS c.1),ms.map fun a=>(a.1,H4 H a.1),vs.map fun v=>(v.1,G4 v.1 V))
 |none=>some ([],[],[],[])
theorem G9 {id:Nat} {l:List Oper} (lz ts:List Nat) (T:List (Nat × Nat)) (hH:HOk P H) (hV:VOk V) (hCS:COk CS) (next:K .normal (stD (Hj P n l.toArray lz ts H V T l.length true (Array.replicate l.length false) x)))
  (hm:P.follows .mixedOrders=true:=by kernel_rfl) (hs:Region.noSelect l.toArray=true:=by kernel_rfl)
  (h:Hj P n l.toArray lz ts H V T l.length true (Array.replicate l.length false) x=Ti H V CS (Hj P n l.toArray lz ts H V T l.length true (Array.replicate l.length false) x):=by kernel_rfl):SW P n (.region id l.toArray true) B F K x:=by
 refine Ja hm fun F0 _=>?_
 cases hr:Hj P n l.toArray lz ts H V T l.length true (Array.replicate l.length false) x with
 |none=>rw[hr] at h;cases h
 |some q =>
  obtain⟨fs,cs,ms,vs⟩:=q;rw[hr] at h next;simp only[Ti,Option.some.injEq,Prod.mk.injEq] at h;refine X2i hs hH hV hCS hr ⟨Mz (f:=H7 CS) h.2.1,Mz (f:=H4 H) h.2.2.1,Mz (f:=fun j=>G4 j V) h.2.2.2⟩ fun y hy=>?_;rw[h.1] at hy;obtain⟨_,_,rfl⟩:=List.mem_map.1 hy;exact next
theorem Co {id:Nat} {l:List Oper} {d:Code} (lz ts:List Nat) (T:List (Nat × Nat)) (hH:HOk P H) (hV:VOk V) (hCS:COk CS) (next:SW P n d B F K (stD (Hj P n l.toArray lz ts H V T l.length true (Array.replicate l.length false) x)))
  (hm:P.follows .mixedOrders=true:=by kernel_rfl) (hs:Region.noSelect l.toArray=true:=by kernel_rfl)
  (h:Hj P n l.toArray lz ts H V T l.length true (Array.replicate l.length false) x=Ti H V CS (Hj P n l.toArray lz ts H V T l.length true (Array.replicate l.length false) x):=by kernel_rfl):SW P n (.seq (.region id l.toArray true) d) B F K x:=Ab (G9 lz ts T hH hV hCS next hm hs h)
noncomputable def gcD (ts:List Nat) (m:Nat) (x:St):St:=match gcS ts m x with
 |some y=>y
 |none=>⟨[],[],0⟩
noncomputable def gcB (ts:List Nat) (m:Nat) (x:St):Bool:=match gcS ts m x with
 |some _=>true
 |none=>false
theorem Vf {m:Nat} (h:gcB ts m x=true):gcS ts m x=some (gcD ts m x):=by
 unfold gcB at h;unfold gcD;split at h
 ·rename_i y hy;rw[hy]
 ·cases h
theorem Bx {c:Code} (I:Nat→St→Prop) (ts:List Nat) (m g:Nat) (hlo:F.lo≤m) (h0:I g (gcD ts m x)) (round:∀g y,I g y→SW P n c B F (Kd (fun z=>gcB ts m z=true∧∃g',g' < g∧I g' (gcD ts m z)) K) y) (k:gcB ts m x=true:=by kernel_rfl):SW P n (.loop c) B F K x :=
 Y2e I ts m g hlo (Vf k) h0 fun g y hI=>Q6z (round g y hI) fun e z hz=>by
  cases e with
  |normal=>obtain⟨h1,g',h2,h3⟩:=hz;exact⟨_,Vf h1,g',h2,h3⟩
  |_=>exact hz
theorem C8 {c d:Code} (I:St→Prop) (ts:List Nat) (m:Nat) (hlo:F.lo≤m) (h:SW P n c B F (Kd (fun z=>gcB ts m z=true∧I (gcD ts m z)) K) x) (r:∀y,I y→SW P n d B F K y):SW P n (.seq c d) B F K x :=
 Y2g (fun z=>gcB ts m z=true∧I (gcD ts m z)) h fun z hz=>Pv ts m hlo (Vf hz.1) (r _ hz.2)
theorem RK {rs:List ResultVar} {r:AV} {e:Exit} (he:e = .ret∨e = .normal) (rl:List AV) (h3:Same (Af rl) r)
  (h:(match He P rs x with|some al=>(match frzVl P x.h al with|some q=>some q.1|none=>none)|none=>none)=some rl:=by kernel_rfl):Mk P rs r e x:=by
 split at h
 ·rename_i al ha;split at h
  ·rename_i q hq;obtain⟨rl',h'⟩:=q;cases h;exact X0r he ha hq h3
  ·cases h
 ·cases h
end
theorem Rn {q:Bool} {c:Option Prop} (p:Option Prop) (h:c=p) (k:q=true→Bk p):q=true→Bk c:=by subst h;exact k
noncomputable def Y3:AV→Nat→AV
 |.row _ _ g=>g
 |_=>fun _=>Bn
theorem wR:Exit.ret = .ret∨Exit.ret = .normal:=.inl rfl
theorem wN:Exit.normal = .ret∨Exit.normal = .normal:=.inr rfl
end Sv
end
section
open Go Go.RowKit
namespace Sv
noncomputable def K8 (P:Program) (n:Nat) (ops:Array Oper) (lz:List Nat) (i:Nat) (x:St):Option (St × Option Prop):=match ops[i]? with
 |some o=>Kc P n ops lz o x
 |none=>none
noncomputable def stR (r:Option (St × Option Prop)):St:=match r with
 |some (y,_)=>y
 |none=>⟨[],[],0⟩
noncomputable def Wb (r:Option (St × Option Prop)):Option Prop:=match r with
 |some (_,C)=>C
 |none=>some False
noncomputable def stL (r:Option (St × Option Prop × Array Bool)):St:=match r with
 |some (y,_)=>y
 |none=>⟨[],[],0⟩
noncomputable def X9n (r:Option (St × Option Prop × Array Bool)):Option Prop:=match r with
 |some (_,C,_)=>C
 |none=>some False
noncomputable def lsL (r:Option (St × Option Prop × Array Bool)):Array Bool:=match r with
 |some (_,_,L)=>L
 |none => #[]
noncomputable def Yo (ts:List Nat) (s:Fr):Fr:=match Gt ts s with
 |some r=>r
 |none=>[]
noncomputable def Yp (ts:List Nat) (s:Fr):Bool:=match Gt ts s with
 |some _=>true
 |none=>false
noncomputable def lsD (n:Nat) (l:List Nat):Array Bool:=l.foldl (fun a i=>a.setIfInBounds i true) (Array.replicate n false)
section
variable {P : Program} {B : Bas} {w : World} {F F0 : Cx} {n : Nat} {KK : St → Prop} {x : St} {E : Bool} {ops : Array Oper} {fuel fuel' : Nat} {listed : Array Bool} {C : Option Prop}
theorem X6 {lz:List Nat} {i:Nat} (h:Wb (K8 P n ops lz i x)=C) (hC:Bk C):∃o,ops[i]? = some o∧Kc P n ops lz o x=some (stR (K8 P n ops lz i x),C):=by
 unfold K8 at h ⊢;split at h
 ·rename_i o ho;refine⟨o,ho,?_⟩
  cases hs:Kc P n ops lz o x with
  |none=>rw[hs] at h;subst h;exact hC.elim
  |some q=>obtain⟨y,D⟩:=q;rw[hs] at h;subst h;rfl
 ·subst h;exact hC.elim
theorem A9 (i:Nat) (lz:List Nat) (hC:Bk C) (next:SG P n ops B F KK F0 E fuel (listed.setIfInBounds i true) (stR (K8 P n ops lz i x))) (h:Wb (K8 P n ops lz i x)=C:=by kernel_rfl):SN P n ops B F KK F0 E fuel listed i x:=by
 obtain⟨o,h1,h2⟩:=X6 h hC;exact Q68 i lz h1 h2 hC next
theorem Db (i:Nat) (lz:List Nat) (hC:Bk C) (next:SG P n ops B F KK F0 E fuel (listed.setIfInBounds i true) (stR (K8 P n ops lz i x))) (hr:Region.ready .any ops listed=[i]:=by kernel_rfl) (h:Wb (K8 P n ops lz i x)=C:=by kernel_rfl):SG P n ops B F KK F0 E (fuel+1) listed x:=by
 obtain⟨o,h1,h2⟩:=X6 h hC;exact Y2w i lz hr h1 h2 hC next
theorem Ay (ts:List Nat) (next:SG P n ops B F KK F0 E fuel listed ⟨Yo ts x.s,x.h,x.nx⟩) (h:Yp ts x.s=true:=by kernel_rfl):SG P n ops B F KK F0 E fuel listed x:=by
 unfold Yp at h;unfold Yo at next;split at h
 ·rename_i r hr;rw[hr] at next;exact W2 ts hr next
 ·cases h
theorem C3 (lz is ts:List Nat) (hC:Bk C) (next:SG P n ops B F KK F0 E fuel (lsL (Nb P E n ops lz is ts listed x)) (stL (Nb P E n ops lz is ts listed x))) (hs:Region.noSelect ops=true:=by kernel_rfl) (hf:fuel'=fuel+is.length:=by kernel_rfl)
  (h:X9n (Nb P E n ops lz is ts listed x)=C:=by kernel_rfl):SG P n ops B F KK F0 E fuel' listed x:=by
 cases hq:Nb P E n ops lz is ts listed x with
 |none=>rw[hq] at h;subst h;exact hC.elim
 |some q =>
  obtain⟨y,D,L⟩:=q;rw[hq] at h next;subst h;exact Y2y is ts hs hq hf hC next
theorem A8 {E':Bool} {fuel':Nat} {listed':Array Bool} {x':St} (m:SG P n ops B F KK F0 E' fuel' listed' x') (hE:E'=E:=by kernel_rfl) (hf:fuel'=fuel:=by kernel_rfl) (hl:listed'=listed:=by kernel_rfl) (hx:x'=x:=by kernel_rfl):SG P n ops B F KK F0 E fuel listed x:=Y2x m hE hf hl hx
end
end Sv
end
section
open Go Go.RowKit
namespace Sv
noncomputable def mis:List (AV × AV × Nat)→Option (List (Int × Int))
 |[]=>some []
 |(.int .i64 k,.int .i64 a,_)::r=>match mis r with
  |some l=>some ((k,a)::l)
  |none=>none
 |_=>none
theorem Uw {φ:Phi}:∀{es:List (AV × AV × Nat)} {l:List MapEntry} {m:List (Int × Int)},MR φ es l→mis es=some m→l.map (fun e=>(e.key,e.val))=Dq I64 I64 m
 |[],_,_,h,k=>by cases k;simp only[MR] at h;subst h;rfl
 |(a,v,c)::r,_,_,h,k=>by
  simp only[MR] at h;obtain⟨e,l',rfl,h1,h2,_,h4⟩:=h;unfold mis at k;split at k
  ·cases ‹_=[]›
  ·rename_i q;cases q;split at k
   ·rename_i hm;cases k;simp only[VR] at h1 h2;simp only[List.map_cons,Dq,Uw h4 hm,h1,h2]
   ·cases k
  ·cases k
theorem MR.snoc {φ:Phi} {a v:AV} {e:MapEntry} (h1:VR φ a e.key) (h2:VR φ v e.val):∀{es:List (AV × AV × Nat)} {l:List MapEntry},MR φ es l→MR φ (es++[(a,v,e.born)]) (l++[e])
 |[],_,h=>by simp only[MR] at h;subst h;simp only[List.nil_append,MR];exact⟨e,[],rfl,h1,h2,rfl,rfl⟩
 |(b,u,c)::r,_,h=>by
  simp only[MR] at h;obtain⟨e',l',rfl,k1,k2,k3,k4⟩:=h;simp only[List.cons_append,MR];exact⟨e',_,rfl,k1,k2,k3,MR.snoc h1 h2 k4⟩
section
variable {P : Program} {B : Bas} {w : World} {F : Cx} {n : Nat} {φ : Phi} {σ : Nat → Value} {K : Exit → St → Prop} {x : St} {ops : Array Oper}
theorem Q64 {rest:List Oper} {t kt et:TypeId} {X I Y:Operand} {ty:TypeId} {ps:String} {af:Array Edge} {g:Option (Nat × Bool)} {b c:Nat} {es:List (AV × AV × Nat)} {m:List (Int × Int)} {k a:Int}
  (hg:Cy ops x.s g=true) (hX:evA x.s X=some (.map b)) (hI:evA x.s I=some (.int .i64 k)) (hY:evA x.s Y=some (.int .i64 a)) (hb:Bc b x.h=some (.map es c)) (hm:mis es=some m) (hn:Bt m k=none)
  (ht:P.underlying t=some (.map kt et)) (hk:P.underlying kt=some (.int .i64)) (next:SO P n ops rest B F K ⟨x.s,Cd b (.map (es++[(.int .i64 k,.int .i64 a,c)]) (c+1)) x.h,x.nx⟩):SO P n ops (⟨none,.insert t X I Y,ty,ps,af,g⟩::rest) B F K x:=by
 intro φ σ w hx;have v1:=hx.fr.ev _ _ hX;have v2:=hx.fr.ev _ _ hI;have v3:=hx.fr.ev _ _ hY;simp only[VR] at v1 v2 v3;obtain⟨x0,κ,e0,v1⟩:=v1;obtain⟨x1,κ1,l,h1,h2,h3⟩:=hx.rel.obj b _ hb;rw[e0] at h1;cases h1;have he:=Uw h3 hm;obtain⟨r,f1,f2,f3⟩:=Qr (M0 hk) k l.toList m he w;rw[hn] at f2;have hc:=(M0 hk).check false 9999 k w;have hlt:x0 < w.heap.size:=Dh h2
 cases r with
 |some p=>simp at f2
 |none =>
  refine Ia (w':={ w with heap:=w.heap.setIfInBounds x0 (.map (l.push { key:=I64 k,val:=I64 a,born:=c }) (c+1)) }) (C7 hx.fr hg) ?_ (next φ _ _ ⟨hx.fr,?_,hx.dom,hx.old,hx.new,hx.base⟩)
  ·have v2':ev n σ I=I64 k:=v2;have v3':ev n σ Y=I64 a:=v3;simp[execOp,v1,v2',v3',Instr.mapUpdate,run_underlying ht,getObj,setObj,Sem.run,h2,hc,f1,go_sem]
  ·refine hx.rel.set hb rfl rfl e0 rfl rfl rfl (by simp) (fun j hj=>by simp[Array.getElem?_setIfInBounds,Ne.symm hj]) ⟨x0,κ,_,e0,(by simp[hlt];rfl),?_⟩;rw[Array.toList_push];exact MR.snoc (e:={ key:=I64 k,val:=I64 a,born:=c }) (by simp only[VR]) (by simp only[VR]) h3
theorem Y2j {rest:List Oper} {t kt et:TypeId} {X I:Operand} {dst:Option Tmp} {ty:TypeId} {ps:String} {af:Array Edge} {g:Option (Nat × Bool)} {b c:Nat} {es:List (AV × AV × Nat)} {m:List (Int × Int)} {k r:Int} {s':Fr}
  (hg:Cy ops x.s g=true) (hX:evA x.s X=some (.map b)) (hI:evA x.s I=some (.int .i64 k)) (hb:Bc b x.h=some (.map es c)) (hm:mis es=some m)
  (ht:P.underlying t=some (.map kt et)) (hk:P.underlying kt=some (.int .i64)) (hz:∀w,(zeroValue et).run P w = .ok (.int .i64 0) w) (hr:(Bt m k).getD 0=r)
  (hp:B7 n dst (.int .i64 r) x.s=some s') (next:SO P n ops rest B F K ⟨s',Cz b x.h,x.nx⟩):SO P n ops (⟨dst,.lookup t X I false,ty,ps,af,g⟩::rest) B F K x:=by
 intro φ σ w hx;have v1:=hx.fr.ev _ _ hX;have v2:=hx.fr.ev _ _ hI;simp only[VR] at v1 v2;obtain⟨x0,κ,e0,v1⟩:=v1;obtain⟨x1,κ1,l,h1,h2,h3⟩:=hx.rel.obj b _ hb;rw[e0] at h1;cases h1;have he:=Uw h3 hm;refine Ca (C7 hx.fr hg) (Ta (enc:=I64) (val:=I64) (k:=k) (m:=m) v1 v2 ⟨_,_,h2,he⟩ (M0 hk) ht hz) (next φ _ w ⟨hx.fr.put hp ?_,hx.rel.del b,hx.dom,hx.old,hx.new,hx.base⟩);rw[←hr];cases Bt m k<;>simp[VR,I64]
end
end Sv
end
section
open Go Go.RowKit
namespace Sv
section
variable {P : Program} {n : Nat} {φ : Phi} {σ : Nat → Value}
end
end Sv
end
section
open Go Go.RowKit
namespace Sv
section
variable {P : Program} {B : Bas} {w : World} {F F0 : Cx} {n : Nat} {φ : Phi} {σ : Nat → Value} {K : Exit → St → Prop} {x y : St} {ops : Array Oper}
theorem Q7q {z:Value} {sz k:Nat} (h:z.cells.size=sz):(Builtin.zeroCells z.cells k).toList=(List.replicate k z).flatMap fun u=>u.cells.toList:=by
 have hl:((List.replicate k z).flatMap fun u=>u.cells.toList).length=k*sz:=by
  rw[Jv (sz:=sz) (fun u hu=>by rw[List.eq_of_mem_replicate hu];exact h),List.length_replicate]
 refine List.ext_getElem (by rw[Array.length_toList,size_zeroCells,h,hl]) fun q h1 h2=>?_;rw[hl] at h2
 have hs : 0 < sz := by rcases Nat.eq_zero_or_pos sz with e | e; · subst e; omega
                        · exact e
 have hq:q % sz < sz:=Nat.mod_lt _ hs;have hd:q / sz < k:=Nat.div_lt_of_lt_mul (by rw[Nat.mul_comm];exact h2)
 have hj:z.cells.toList[q % sz]? = some (z.cells[q % sz]'(by omega)):=by simp[h,hq]
 have:=Q29 (vs:=List.replicate k z) (sz:=sz) (i:=q / sz) (v:=z) (fun u hu=>by rw[List.eq_of_mem_replicate hu];exact h) (by simp[hd]) hj;rw[show q / sz*sz+q % sz=q by rw[Nat.mul_comm];exact Nat.div_add_mod q sz,List.getElem?_eq_some_iff] at this;obtain⟨_,this⟩:=this;rw[this];simp[Builtin.zeroCells,h,hq]
end
end Sv
end
section
open Go Go.RowKit
namespace Sv
def P1 (φ:Phi) (h:AH) (nx:Nat) (w:World) (φ':Phi) (h':AH) (w':World):Prop:=Rel (Fm φ h w) φ' h' w'∧(∀b x,b < nx→φ b=some x→φ' b=some x)∧(∀b o,φ.f b=some o→φ'.f b=some o)∧∀b o,φ'.f b=some o→φ.f b=some o∨¬(Fm φ h w).old b
def CallZ {α:Type} (P:Program) (ch:List PanicEntry) (f:Nat) (al:List AV) (h:AH) (nx:Nat) (o:Option α) (r:α→AV) (m:α→AH):Prop:=∀(B0:Bas) (φ:Phi) (w:World) (vs:List Value),Rel B0 φ h w→VRl φ al vs →
 Calls P f vs.toArray w (Pan ch (fun v w'=>∃a,o=some a∧∃φ',P1 φ h nx w φ' (m a) w'∧VR φ' (r a) v) (fun w'=>o=none∧∃φ',P1 φ h nx w φ' [] w'))
def W8 (P:Program) (ch:List PanicEntry) (f:Nat) (al:List AV) (h:AH) (nx:Nat):Prop:=∀(B0:Bas) (φ:Phi) (w:World) (vs:List Value),Rel B0 φ h w→VRl φ al vs →
 Calls P f vs.toArray w (Pan ch (fun _ _=>False) (fun w'=>∃φ',P1 φ h nx w φ' [] w'))
theorem Re {α:Type} (o:Option α) {G:Prop} (h0:o=none→G) (h1:∀a,o=some a→G):G:=match o,h0,h1 with
 |none,h0,_=>h0 rfl
 |some a,_,h1=>h1 a rfl
section
variable {α : Type} {P : Program} {ch : List PanicEntry} {f : Nat} {al : List AV} {h : AH} {nx : Nat} {o : Option α} {r : α → AV} {m : α → AH}
theorem CallZ.yes {a:α} (c:CallZ P ch f al h nx o r m) (e:o=some a):F6 P f al h nx (r a) (m a):=fun B0 φ w vs h1 h2=>(c B0 φ w vs h1 h2).mono (by
 rintro e' w' (⟨v,rfl,a',q,φ',⟨b1,b2,b3,b4⟩,b5⟩|⟨_,q,_⟩)
 ·rw[e] at q;cases q;exact⟨v,rfl,φ',b1,b5,b2,b3,b4⟩
 ·rw[e] at q;cases q)
theorem CallZ.no (c:CallZ P ch f al h nx o r m) (e:o=none):W8 P ch f al h nx:=fun B0 φ w vs h1 h2=>(c B0 φ w vs h1 h2).mono (by
 rintro e' w' (⟨v,rfl,a',q,_⟩|⟨rfl,_,q⟩)
 ·rw[e] at q;cases q
 ·exact Pan.pan q)
def Y5 (P:Program) (rs:List ResultVar) (ch:List PanicEntry) (o:Option α) (r:α→AV) (m:α→AH) (nx:Nat):Exit→St→Prop
 |.panic c,_=>c=ch∧o=none
 |e,x=>∃a,o=some a∧Qw P rs (r a) (m a) nx e x
theorem Qv {rs:List ResultVar} {x:St} {al:List AV} {e:Exit} (a:α) (ho:o=some a) (he:e = .ret∨e = .normal) (h1:He P rs x=some al) (h2:Af al=r a) (h3:C6 nx x.h=some (m a)):Y5 P rs ch o r m nx e x:=by
 rcases he with rfl|rfl
 ·exact⟨a,ho,Ej (.inl rfl) h1 h2 h3⟩
 ·exact⟨a,ho,Ej (.inr rfl) h1 h2 h3⟩
theorem Rel.lost {B:Bas} {φ ψ:Phi} {h:AH} {w:World} (k:Rel B φ h w) (e:ψ.f=φ.f):Rel B ψ [] w:=⟨k.below,by rw[e];exact k.fro,fun b o q=>(by cases q),fun b b' o o' k q=>(by cases q),fun b o k q=>(by cases q)⟩
theorem Y30 {fn:Func} {c:Code} {n:Nat} (rs:List ResultVar) (hf:P.funcs[f]? = some fn) (hb:fn.body=some c) (hn:fn.ntmps=n) (hr:fn.results=rs.toArray) (ha:Nat.ble al.length n=true)
  (hH:C6 nx h=some h) (hal:lowl nx al=true) (hrl:∀a,low nx (r a)=true) (k:∀(B:Bas) (F:Cx),F.lo=nx→SW P n c B F (Y5 P rs ch o r m nx) ⟨Fo 0 al,h,nx⟩):CallZ P ch f al h nx o r m:=by
 intro B0 φ w vs hrel hv;have hlen:=hv.length;have hal':al.length≤n:=Nat.le_of_ble_eq_true ha;have hcut:=hrel.cut hH
 have himg:∀b o,Bc b h=some o→img (φ.cut nx) b o=img φ b o:=by
  intro b o e;have:=(J1 hH b o e).1;funext k
  cases o<;>simp only[img]<;>first|rw[show(φ.cut nx) b=φ b from if_pos this,show(φ.cut nx).s b=φ.s b from if_pos this]|rw[show(φ.cut nx) b=φ b from if_pos this]|rw[show(φ.cut nx).s b=φ.s b from if_pos this]
 have hcm:∀b x,(if b < nx then φ b else none)=some x→b < nx:=by
  intro b x e;by_cases hb:b < nx
  ·exact hb
  ·rw[if_neg hb] at e;cases e
 have hx:Holds (Fm φ h w) ⟨φ.f,fun b=>if b < nx then φ b else none,nx,hcm⟩ n ⟨Fo 0 al,h,nx⟩ (φ.cut nx) (Ee vs) w:=by
  refine⟨fun t a e=>?_,⟨⟨rfl,rfl,rfl,Nat.le_refl _,fun _ _=>rfl⟩,hcut.fro,hcut.obj,hcut.sep,fun b o k e i=>?_⟩,fun b hb=>⟨if_neg (by simpa using hb),if_neg (by simpa using hb)⟩,fun b o e=>e,fun b o e => .inl e,fun b x e=>e⟩
  ·obtain⟨h1,h2,h3⟩:=Kl (hv.cut hal) e;rw[Nat.sub_zero] at h2 h3
   have ht:Nat.blt t n=true:=by simp only[Nat.blt_eq];omega
   simp only[sl,ht,cond_true,Ee];exact h2
  ·have:=hcut.gf b o k e i;exact⟨fun q=>q.2 b o e (by rw[←himg b o e];exact i),this.2⟩
 refine D7 hf hb hn ?_ (by rw[hlen];exact ha);refine W_mono (k _ _ rfl _ _ _ hx) ?_;rintro e σ' w' ⟨y,φ1,hy,he⟩;have hb2:∀b x,b < nx→φ b=some x→(φ1.cut nx) b=some x:=fun b x hb q=>(if_pos hb).trans (hy.base b x ((if_pos hb).trans q))
 have fin:∀a,o=some a→Qw P rs (r a) (m a) nx e y→Ht P n fn (Pan ch (fun v w'=>∃a,o=some a∧∃φ',P1 φ h nx w φ' (m a) w'∧VR φ' (r a) v) (fun w'=>o=none∧∃φ',P1 φ h nx w φ' [] w')) .ret σ' w':=by
  rintro a ho ⟨_,al',k1,k2,k3⟩;obtain⟨vs',hvs,hrun⟩:=Ke (P:=P) hy.fr hy.rel k1;have hp:=Ms hvs;rw[k2] at hp;exact⟨_,Lb hr hrun,.inl ⟨_,rfl,a,ho,φ1.cut nx,⟨hy.rel.cut k3,hb2,hy.old,hy.new⟩,hp.cut (hrl a)⟩⟩
 cases e with
 |normal=>obtain⟨a,ho,hs⟩:=he;exact fin a ho hs
 |ret=>obtain⟨a,ho,hs⟩:=he;exact fin a ho hs
 |panic c =>
  obtain⟨rfl,ho⟩:=he;exact .inr ⟨rfl,ho,φ1.cut nx,hy.rel.lost rfl,hb2,hy.old,hy.new⟩
 |_=>obtain⟨a,ho,hs,_⟩:=he;rcases hs with hs|hs<;>cases hs
end
section
variable {P : Program} {B : Bas} {w : World} {F : Cx} {n : Nat} {φ : Phi} {σ : Nat → Value} {K : Exit → St → Prop} {x y : St} {ops : Array Oper} {ch : List PanicEntry}
theorem Holds.none {σ':Nat→Value} (h:Holds B F n x φ σ w):Holds B F n ⟨[],x.h,x.nx⟩ φ σ' w:=⟨fun t a e=>(by cases e),h.rel,h.dom,h.old,h.new,h.base⟩
theorem Q62 {l:List Oper} (e sz t:Nat) (hsz:Nat.blt 0 sz=true) (k:Qc e sz t x=some y) (h:SO P n ops l B F K y):SO P n ops l B F K x:=fun φ σ w hx=>by
 obtain⟨φ',hh⟩:=hx.thaw hsz k;exact h _ _ _ hh
theorem Ha {rest:List Oper} {f:FuncId} {ar:Array Operand} {ts:Array TypeId} {ty:TypeId} {ps:String} {dst:Option Tmp} {af:Array Edge} {g:Option (Nat × Bool)} {al':List AV} {H:AH} (ks:List Nat)
  (he:Ak P f) (hf:W8 P ch f al' H ks.length) (k:∀h2,Hl ks [] x.h=some h2→K (.panic ch) ⟨Jg ks x.s,h2,x.nx⟩) (hg:Cy ops x.s g=true:=by kernel_rfl) (ha:(match Dy (evA x.s) ar.toList with|some al=>renL ks al|none=>none)=some al':=by kernel_rfl)
  (hn:Fx ks=true:=by kernel_rfl) (hb:Lv x.nx ks=true:=by kernel_rfl) (hs:Jh ks x.h 0 ks=some H:=by kernel_rfl) (hk:(Hl ks [] x.h).isSome=true:=by kernel_rfl):SO P n ops (⟨dst,.call { callee:=.value (.func f),args:=ar,argTypes:=ts },ty,ps,af,g⟩::rest) B F K x:=by
 intro φ σ w hx;obtain⟨h2,hk⟩:=Option.isSome_iff_exists.1 hk;split at ha
 ·rename_i al hal;have hv:=(Fa hx.fr.ev hal).pull ha;refine Q6v (C7 hx.fr hg) he (hf B (φ.pull ks) w _ (hx.rel.pull hn hs) hv) ?_ (fun v w' q=>q.elim);rintro w' ⟨φ',q1,q3,q4,q5⟩;exact⟨_,_,hx.callS (r:=Bn) (r':=Bn) (v:=undef) (dst:=Option.none) hn hb hs hk q1 Rs q3 q4 q5 rfl rfl,k _ hk⟩
 ·cases ha
def SZ (P:Program) (n:Nat) (ops:Array Oper) (B:Bas) (F:Cx) (K:Exit→St→Prop) (fuel:Nat) (listed:Array Bool) (x:St):Prop :=
 ∀φ σ w,Holds B F n x φ σ w→WZ P n ops (Er B F n K .normal) (fun c w=>∀σ,Er B F n K (.panic c) σ w) fuel listed σ w
theorem Q61 {id:Nat} {l:List Oper} (hm:P.follows .mixedOrders=true) (h:SZ P n l.toArray B F K l.length (Array.replicate l.length false) x):SW P n (.region id l.toArray true) B F K x:=fun φ σ w hx=>Y1g hm fun w' hd=>by
 obtain⟨m,rfl⟩:=hd;exact h φ σ _ ⟨hx.fr,hx.rel.drew,hx.dom,hx.old,hx.new,hx.base⟩
variable {fuel : Nat} {listed : Array Bool}
noncomputable def Tv (P:Program) (n:Nat) (ops:Array Oper) (i:Nat) (x:St):Option St:=match ops[i]? with
 |some o=>match o.guard with
  |none=>match Ob P (evA x.s) o with
   |some (a,none)=>match B7 n o.dst a x.s with
    |some s'=>some ⟨s',x.h,x.nx⟩
    |none=>none
   |_=>none
  |some _=>none
 |none=>none
noncomputable def stG (r:Option St):St:=match r with
 |some y=>y
 |none=>⟨[],[],0⟩
theorem Sy (i:Nat) (next:SZ P n ops B F K fuel (listed.setIfInBounds i true) (stG (Tv P n ops i x))) (h:(Tv P n ops i x).isSome=true:=by kernel_rfl) (hs:Region.noSelect ops=true:=by kernel_rfl) (hf:Region.free .any ops listed i=true:=by kernel_rfl)
  (hr:(Region.ready .any ops listed).contains i=true:=by kernel_rfl):SZ P n ops B F K (fuel+1) listed x:=by
 intro φ σ w hx;obtain⟨y,hy⟩:=Option.isSome_iff_exists.1 h;rw[hy] at next;unfold Tv at hy;split at hy
 ·rename_i o ho;split at hy
  ·rename_i hg;split at hy
   ·rename_i a ha;split at hy
    ·rename_i s' hp;cases hy;obtain⟨v,h1,h2⟩:=Uh hx.fr.ev ha trivial;exact Y1n i ho hs hf hr (by rw[hg];rfl) h1 (next φ _ w ⟨hx.fr.put hp h2,hx.rel,hx.dom,hx.old,hx.new,hx.base⟩)
    ·cases hy
   ·cases hy
  ·cases hy
 ·cases hy
def M1 (P:Program) (n:Nat) (ops:Array Oper) (B:Bas) (F:Cx) (K:Exit→St→Prop) (fuel:Nat) (listed:Array Bool):Exit→St→Prop
 |.normal,y=>SZ P n ops B F K fuel listed y
 |.panic c,y=>K (.panic c) ⟨[],y.h,y.nx⟩
 |_,_=>False
theorem U5 {i:Nat} {o:Oper} (h:SO P n ops [o] B F (M1 P n ops B F K fuel (listed.setIfInBounds i true)) x) (hx:Holds B F n x φ σ w):WO P n ops [o] (Ip P n ops (Er B F n K .normal) (fun c w=>∀σ,Er B F n K (.panic c) σ w) fuel listed i) σ w:=by
 have h:=h φ σ w hx
 have ho:¬LetsOut (lift n (Er B F n (M1 P n ops B F K fuel (listed.setIfInBounds i true)))):=by
  rintro⟨a,w,σ',_,y,φ',_,h⟩;exact h
 have hk:∀a w',wpList P ops (lift n (Er B F n (M1 P n ops B F K fuel (listed.setIfInBounds i true)))) [] a w'→wpList P ops (lift n (Ip P n ops (Er B F n K .normal) (fun c w=>∀σ,Er B F n K (.panic c) σ w) fuel listed i)) [] a w':=by
  rintro a w' ⟨σ',rfl,y,φ',hy,hs⟩;exact⟨σ',rfl,X2u (hs φ' σ' w' hy)⟩
 unfold WO wpList at h ⊢;split at h
 ·rename_i hw;rw[if_pos hw];rcases h with h|⟨_,h⟩
  ·refine .inl (Xh hk (fun c a w hc=>?_) ho h);obtain⟨σ',rfl,y,φ',hy,hs⟩:=hc;exact⟨σ',rfl,X2t fun σ2=>⟨_,φ',hy.none,hs⟩⟩
  ·exact absurd h ho
 ·rename_i hw;rw[if_neg hw];exact hk _ _ h
theorem Q6y (i:Nat) {o:Oper} (hr:Region.ready .any ops listed=[i]) (hi:ops[i]? = some o) (h:SO P n ops [o] B F (M1 P n ops B F K fuel (listed.setIfInBounds i true)) x):SZ P n ops B F K (fuel+1) listed x :=
 fun φ σ w hx=>Y1o i hr hi (U5 h hx)
theorem Q6x (i j:Nat) {oi oj:Oper} (hr:Region.ready .any ops listed=[i,j]) (hi:ops[i]? = some oi) (hj:ops[j]? = some oj) (h1:SO P n ops [oi] B F (M1 P n ops B F K fuel (listed.setIfInBounds i true)) x) (h2:SO P n ops [oj] B F (M1 P n ops B F K fuel (listed.setIfInBounds j true)) x):SZ P n ops B F K (fuel+1) listed x :=
 fun φ σ w hx=>Y1m i j hr hi hj (U5 h1 hx) (U5 h2 hx)
end
def Hv (ds:List Deferred) (a:Act):Act:={ a with defers:=a.defers++ds }
theorem Q6l (ds:List Deferred) (a:Act):(Hv ds a).eval=a.eval:=by funext x;cases x<;>rfl
theorem Ns (ds:List Deferred) (a:Act) (d:Option Tmp) (v:Value):(Hv ds a).put d v=Hv ds (a.put d v):=by cases d<;>rfl
section
variable {P : Program} {ds : List Deferred}
theorem Q8i {o:Oper} {a:Act} {k k':Act→World→Prop} {Q Q':Exit→Act→World→Prop} (hQ:∀e a w,Q e a w→Q' e (Hv ds a) w) (hk:∀a w,k a w→k' (Hv ds a) w) (r:Result Go.Next) (h:o.upon P a k Q r):o.upon P (Hv ds a) k' Q' r:=by
 unfold Oper.upon at h ⊢;split at h
 ·simp only[Ns];exact hk _ _ h
 ·simp only[Ns];exact hk _ _ h
 ·rename_i d w';have e:({ Hv ds a with defers:=d::(Hv ds a).defers }:Act)=Hv ds { a with defers:=d::a.defers }:=rfl;simp only[e,Ns];exact hk _ _ h
 ·refine h.mono ?_;intro e w h
  cases e with
  |returned v=>simp only[Ns];exact hk _ _ h
  |panicked c=>exact hQ _ _ _ h
  |outgrown=>obtain⟨a,w,q⟩:=h;exact⟨_,_,hQ _ _ _ q⟩
 ·refine h.mono ?_;intro v w h;simp only[Ns];exact hk _ _ h
 ·exact hQ _ _ _ h
 ·exact h.elim
theorem Q1q {ops:Array Oper} {Q Q':Exit→Act→World→Prop} (hQ:∀e a w,Q e a w→Q' e (Hv ds a) w):∀(l:List Oper) (a:Act) (w:World),wpList P ops Q l a w→wpList P ops Q' l (Hv ds a) w
 |[],a,w,h=>hQ _ _ _ h
 |o::l,a,w,h=>by
  have ih:=Q1q (ops:=ops) hQ l;unfold wpList at h ⊢;have e1:(Hv ds a).tmps=a.tmps:=rfl;rw[e1];split at h
  ·rename_i hw;rw[if_pos hw];rcases h with h|⟨h1,a',w',h2⟩
   ·left;unfold Oper.wp at h ⊢;rw[Q6l];exact Q8i hQ ih _ h
   ·right;refine⟨?_,_,_,hQ _ _ _ h2⟩;unfold Oper.asks at h1 ⊢;rw[Q6l];exact h1
  ·rename_i hw;rw[if_neg hw,Ns];exact ih _ _ h
variable {B : Bas} {F : Cx} {n : Nat} {K : Exit → St → Prop} {x : St}
def SWD (P:Program) (ds:List Deferred) (n:Nat) (c:Code) (B:Bas) (F:Cx) (K:Exit→St→Prop) (x:St):Prop:=∀φ σ w,Holds B F n x φ σ w→D.W P ds n c (Er B F n K) σ w
theorem Y2f {c:Code} {φ:Phi} {σ:Nat→Value} {w:World} (h:SW P n c B F K x) (hx:Holds B F n x φ σ w):W P n c (Er B F n K) σ w:=h φ σ w hx
theorem Y3t {c:Code} {φ:Phi} {σ:Nat→Value} {w:World} (hx:Holds B F n x φ σ w) (h:SWD P ds n c B F K x):D.W P ds n c (Er B F n K) σ w:=h φ σ w hx
theorem K4 {id:Nat} {l:List Oper} (h:SO P n l.toArray l B F K x):SWD P ds n (.region id l.toArray false) B F K x:=fun φ σ w hx =>
 D.W_reg (by
  have k:=h φ σ w hx;unfold WO at k
  exact Q1q (ds:=ds) (Q:=lift n (Er B F n K)) (Q':=D.lift ds n (Er B F n K)) (by rintro e _ w ⟨σ,rfl,q⟩;exact⟨σ,rfl,q⟩) l _ _ k)
theorem J9 {c d:Code} (h:SWD P ds n c B F (Kd (SWD P ds n d B F K) K) x):SWD P ds n (.seq c d) B F K x:=by
 intro φ σ w hx;refine D.W_seq (D.W_mono (h φ σ w hx) ?_);rintro e σ' w' ⟨y,φ',h1,h2⟩
 cases e<;>first|exact h2 φ' σ' w' h1|exact⟨y,φ',h1,h2⟩
theorem Y3r (h:K .normal x):SWD P ds n .skip B F K x:=fun φ σ w hx=>D.W_skip ⟨x,φ,hx,h⟩
theorem Q7m (h:K .ret x):SWD P ds n .ret B F K x:=fun φ σ w hx=>D.W_ret ⟨x,φ,hx,h⟩
theorem Y3u {o:Operand} {c d:Code} {q:Bool} (hq:evA x.s o=some (.bool q)) (ht:q=true→SWD P ds n c B F K x) (hf:q=false→SWD P ds n d B F K x):SWD P ds n (.cond o c d) B F K x:=by
 intro φ σ w hx;have:=hx.fr.ev _ _ hq;simp only[VR] at this;exact D.W_cond this (fun h=>ht h φ σ w hx) (fun h=>hf h φ σ w hx)
theorem Y3s {o:Operand} {c d:Code} {p:Prop} [Decidable p] (hq:evA x.s o=some (.bool (!decide p))) (ht:¬p→SWD P ds n c B F K x) (hf:p→SWD P ds n d B F K x):SWD P ds n (.cond o c d) B F K x :=
 Y3u hq (fun h=>ht (by simpa using h)) (fun h=>hf (by simpa using h))
end
theorem X9e {P:Program} {n:Nat} {σ:Nat→Value} {w:World} {p q:Value} {dst:Option Tmp} {g a b:Nat} {ty:TypeId} {ps:String} {af:Array Edge} (h1:sl n σ a=p) (h2:sl n σ b=q) :
  (execOp (ev n σ) ⟨dst,.makeFunc (.func g) #[] #[.tmp a,.tmp b],ty,ps,af,none⟩).run P w = .ok (.value (.func (.func g) #[] #[p,q])) w:=by
 simp[execOp,ev,h1,h2,go_sem]
theorem X9f {P:Program} {n:Nat} {σ:Nat→Value} {w:World} {p q:Value} {g d:Nat} {ty:TypeId} {ps:String} {af:Array Edge} {ts:Array TypeId} (hd:d < n) :
  (execOp (ev n (Bq σ (some d) (.func (.func g) #[] #[p,q]))) ⟨none,.defer { callee:=.value (.tmp d),args := #[],argTypes:=ts },ty,ps,af,none⟩).run P w = .ok (.defer { target:=.fn (.func g) #[p,q],args := #[] }) w:=by
 simp[execOp,resolve,ev,Bq,Yc hd,Deferred.ofValue,go_sem]
end Sv
end
section
open Go Go.RowKit
def DepT.name:DepT→List UInt8 | .mk _ nm _ _ _=>nm
def DepT.op:DepT→Int | .mk _ _ op _ _=>op
def DepT.evr:DepT→List UInt8 | .mk _ _ _ ev _=>ev
def DepT.args:DepT→List DepT | .mk _ _ _ _ a=>a
namespace Sv
mutual
noncomputable def V2:DepT→AV
 |.mk k nm op ev args => .agg [.int .i64 k,.str nm,.int .i64 op,.str ev,.row 5 args.length (depAt args)]
noncomputable def depAt:List DepT→Nat→AV
 |[],_=>Bn
 |d::_,0=>V2 d
 |_::r,i+1=>depAt r i
end
noncomputable def Ap (d:DepT):AV:=.agg [.int .i64 d.kind,.str d.name,.int .i64 d.op,.str d.evr,.row 5 d.args.length (depAt d.args)]
theorem X89 (d:DepT):V2 d=Ap d:=by cases d;unfold V2;rfl
theorem V3:∀{l:List DepT} {i:Nat},i < l.length→depAt l i=Ap (nth l i)
 |[],_,h=>by simp at h
 |d::r,0,_=>by unfold depAt;exact X89 d
 |d::r,i+1,h=>by
  unfold depAt;exact V3 (l:=r) (by simpa using h)
noncomputable abbrev Dk (l:List DepT):AV:=Aj 5 Ap l
theorem Gk (l:List DepT):Imp (.row 5 l.length (depAt l)) (Dk l):=Imp.row fun i hi=>Imp.of_eq (V3 hi)
theorem I3 (l:List DepT):Imp (Dk l) (.row 5 l.length (depAt l)):=Imp.row fun i hi=>Imp.of_eq (V3 hi).symm
theorem VRl.of_imp {a b:AV} {l:List AV} (h:Imp a b):∀{p:List AV} {φ:Phi} {vs:List Value},VRl φ (p++a::l) vs→VRl φ (p++b::l) vs
 |[],φ,vs,k=>by
  obtain⟨v,vs',rfl,h1,h2⟩:=VRl.cons_inv (a:=a) (l:=l) k;exact VRl.cons (h φ v h1) h2
 |x::p,φ,vs,k=>by
  obtain⟨v,vs',rfl,h1,h2⟩:=VRl.cons_inv (a:=x) (l:=p++a::l) k;exact VRl.cons h1 (VRl.of_imp h h2)
theorem Imp.agg {a b:AV} {p l:List AV} (h:Imp a b):Imp (.agg (p++a::l)) (.agg (p++b::l)):=by
 intro φ v k;simp only[VR] at k ⊢;obtain⟨vs,h1,h2⟩:=k;exact⟨vs,VRl.of_imp h h1,h2⟩
theorem X88 (d:DepT):Imp (Ap d) (.agg [.int .i64 d.kind,.str d.name,.int .i64 d.op,.str d.evr,Dk d.args]):=Imp.agg (p:=[.int .i64 d.kind,.str d.name,.int .i64 d.op,.str d.evr]) (Gk d.args)
theorem X87 (d:DepT):Imp (.agg [.int .i64 d.kind,.str d.name,.int .i64 d.op,.str d.evr,Dk d.args]) (Ap d):=Imp.agg (p:=[.int .i64 d.kind,.str d.name,.int .i64 d.op,.str d.evr]) (I3 d.args)
theorem Id {d:DepT} {i:Nat} (h:i < d.args.length):(nth d.args i).size < d.size:=by
 cases d with
 |mk k nm op ev args =>
  have:=I8 (l:=args) (i:=i) h;show(nth args i).size < (DepT.mk k nm op ev args).size;simp only[DepT.size];omega
theorem Nl {C:DepT→Prop} (h:∀d,(∀i,i < d.args.length→C (nth d.args i))→C d) (d:DepT):C d:=by
 have key:∀n d,d.size≤n→C d:=by
  intro n
  induction n with
  |zero=>intro d hd;cases d;unfold DepT.size at hd;omega
  |succ n ih=>intro d hd;exact h d fun i hi=>ih _ (by have:=Id hi;omega)
 exact key d.size d (Nat.le_refl _)
theorem X0o {F:Nat→Option Obj} {w:World} {sz n:Nat} {u:Nat→Value} {v:Value} (hF:Fro F w) (h:RowAt F sz n u v) (hs:∀i,i < n→(u i).cells.size=sz):RowIs w v n sz ((List.range n).map fun i=>(u i).cells.toList).flatten:=by
 have hf:=Ue (f:=fun i=>(u i).cells.toList) n (fun i hi=>by rw[Array.length_toList];exact hs i hi);rw[List.flatMap_def] at hf;refine⟨hf.1,?_⟩;rcases h with⟨rfl,rfl|⟨a,c,rfl⟩⟩|⟨b,o,c,rfl,_,hl⟩
 ·exact .inl ⟨rfl,_,_,rfl⟩
 ·exact .inl ⟨rfl,_,_,rfl⟩
 ·refine .inr ⟨b,o,c,rfl,fun j x hj=>?_⟩;obtain⟨i,k,hi,rfl,hk⟩:=hf.2 j x hj;rw[←Nat.add_assoc];exact Ju hF (hl i hi).2 hk
theorem X0l {F:Nat→Option Obj} {sz n:Nat} {u:Nat→Value} {v:Value} (h:RowAt F sz n u v):∀i,i < n→(u i).cells.size=sz:=by
 rcases h with⟨rfl,_⟩|⟨b,o,c,rfl,_,hl⟩
 ·intro i hi;omega
 ·exact fun i hi=>(hl i hi).1
theorem Q5z {w:World}:∀{l:List DepT} {f:Nat→List Value},(∀i,i < l.length→DepC w (nth l i) (f i))→ArgsC w l ((List.range l.length).map f)
 |[],f,_=>by unfold ArgsC;rfl
 |d::r,f,h=>by
  unfold ArgsC;refine⟨f 0,(List.range r.length).map fun i=>f (i+1),?_,h 0 (by simp),Q5z fun i hi=>h (i+1) (by simpa using hi)⟩;rw[List.length_cons,List.range_succ_eq_map,List.map_cons,List.map_map];rfl
theorem X9c {F:Nat→Option Obj} {w:World} (hF:Fro F w) (d:DepT):∀v,VR (ofF F) (Ap d) v→∃cs,v = .agg cs.toArray∧DepC w d cs:=by
 refine Nl (C:=fun d=>∀v,VR (ofF F) (Ap d) v→∃cs,v = .agg cs.toArray∧DepC w d cs) (fun d ih=>?_) d;intro v hv;have hv:=X88 d _ _ hv;simp only[VR] at hv;obtain⟨vs,h1,rfl⟩:=hv;obtain⟨v0,r0,rfl,e0,h1⟩:=h1.cons_inv;obtain⟨v1,r1,rfl,e1,h1⟩:=h1.cons_inv;obtain⟨v2,r2,rfl,e2,h1⟩:=h1.cons_inv;obtain⟨v3,r3,rfl,e3,h1⟩:=h1.cons_inv;obtain⟨v4,r4,rfl,e4,h1⟩:=h1.cons_inv;rw[h1.nil_inv];simp only[VR] at e0 e1 e2 e3;subst e0 e1 e2 e3;simp only[Dk,Aj,VR] at e4;obtain⟨u,hu,hr⟩:=e4;have hsz:=X0l hr;refine⟨_,rfl,?_⟩
 have hd:d = .mk d.kind d.name d.op d.evr d.args:=by cases d;rfl
 rw[hd];unfold DepC;refine⟨v4,(List.range d.args.length).map fun i=>(u i).cells.toList,rfl,X0o hF hr hsz,Q5z fun i hi=>?_⟩;obtain⟨cs,q1,q2⟩:=ih i hi (u i) (hu i hi);rw[q1];simpa [Value.cells] using q2
end Sv
end
section
open Go Go.RowKit
namespace Sv
attribute [local irreducible] SW SO Bk
set_option maxHeartbeats 1000000
set_option maxRecDepth 100000
theorem Ru (ls:List (List UInt8)) (s:List UInt8) (hl:ls.length≤4611686018427387904) :
  FnV Tryz.prog 71 [(B3 ls),(.str s)] (.int .i64 (A7 ls s 0)):=by
 refine A3 [.tmp 4] Tryz.func71 rfl Tryz.ntmps71 rfl rfl (fun B F hF=>?_);refine Aa [] [0,1] ?_;refine Ab (Aa [] [0,1,7,8] ?_);refine Az (Bx (fun g y=>∃(i:Nat),i≤ls.length∧A7 ls s 0=A7 (ls.drop i) s i∧y=⟨[(0,(B3 ls)),(1,(.str s)),(7,(.int .i64 ((ls.length:Int)))),(8,(.int .i64 ((i:Int))))],[],0⟩∧g=ls.length-i) [0,1,7,8] 0 _ (by omega) ⟨0,(by omega),(by rfl),(by kernel_rfl),rfl⟩ ?_);rintro g1 y1 ⟨i,f1_1,f1_2,rfl,rfl⟩;refine Aa [] [0,1,7,8,9] ?_;refine Ab ?_;refine Ax (p:=(i:Int) < (ls.length:Int)) (by kernel_rfl) (fun c1=>?_) (fun c1=>?_)
 ·refine Ag (Ab ?_);refine Az (Aa [] [0,1,5,7,8] ?_);refine Ad [] [0,1,5,7,8,16] [] hk0 v0 (cc 3 (p:=(0≤(i:Int)∧i < ls.length)) (by omega)<|c0) ?_;refine Ax (p:=s=nth ls i) (by kernel_rfl) (fun c2=>?_) (fun c2=>?_)
  ·refine Aa [] [4] ?_;refine Ae (RK wR [(.int .i64 ((i:Int)))] ?_);exact Same.of_eq (by rw[f1_2,Xb s (by omega),if_pos c2];rfl)
  ·refine Ag ?_;refine An (Av 0 [] [0,1,7,8] [] hk0 v0 (cc 0 (p:=(-9223372036854775808≤(i:Int)+1∧(i:Int)+1≤9223372036854775807)) (by omega)<|c0) ?_);refine⟨by kernel_rfl,_,?_,i+1,?_,?_,(by kernel_rfl),rfl⟩
   ·omega
   ·omega
   ·rw[f1_2,Xb s (by omega),if_neg c2]
 ·refine Bp (Aa [] [4] ?_);refine Ae (RK wR [(.int .i64 (-1))] ?_);exact Same.of_eq (by rw[f1_2,List.drop_of_length_le (by omega)];rfl)
theorem Q5b (ls:List (List UInt8)) (s:List UInt8) (hl:ls.length≤4611686018427387904) :
  FnV Tryz.prog 77 [(B3 ls),(.str s)] (.bool (decide (0≤A7 ls s 0))):=by
 refine A3 [.tmp 4] Tryz.func77 rfl Tryz.ntmps77 rfl rfl (fun B F hF=>?_);refine Aa [] [0,1] ?_;refine Ad [] [4] [] (hk 2 Pa (Ru ls s hl)<|hk0) v0 c0 ?_;refine Ae (RK wR [(.bool (decide (0≤(A7 ls s 0))))] ?_);exact Same.of_eq (by first|rfl|(simp only[Af];simp_all))
theorem Yg  :
  FnV Tryz.prog 78 [] (B3 signsL):=by
 refine A3 [.tmp 0] Tryz.func78 rfl Tryz.ntmps78 rfl rfl (fun B F hF=>?_);refine Aa [] [] ?_;refine Aa [] [0] ?_;refine Ae (RK wR [(.row 1 8 (fun ix=>(F3 1 8 [(.str []),(.str ([60])),(.str ([61])),(.str ([60,61])),(.str ([62])),(.str ([60,62])),(.str ([62,61])),(.str ([60,61,62]))]).getD ix Bn))] ?_);exact(Imp.list (f:=AV.str) (l:=signsL) rfl).same
theorem Xk  :
  FnV Tryz.prog 79 [] (B3 Bj):=by
 refine A3 [.tmp 0] Tryz.func79 rfl Tryz.ntmps79 rfl rfl (fun B F hF=>?_);refine Aa [] [] ?_;refine Aa [] [0] ?_;refine Ae (RK wR [(.row 1 7 (fun ix=>(F3 1 7 [(.str []),(.str []),(.str ([97,110,100])),(.str ([111,114])),(.str ([105,102])),(.str ([119,105,116,104])),(.str ([119,105,116,104,111,117,116]))]).getD ix Bn))] ?_);exact(Imp.list (f:=AV.str) (l:=Bj) rfl).same
theorem Nx (l:List UInt8) (hl:l.length≤9223372036854775807) :
  FnV Tryz.prog 36 [(.str l)] (.bool (Bh l)):=by
 have hp:l=[]∨0 < l.length:=by cases l<;>simp
 refine A3 [.tmp 2] Tryz.func36 rfl Tryz.ntmps36 rfl rfl (fun B F hF=>?_);refine Aa [] [0] ?_;refine Ab ?_
 obtain⟨b1,hb1⟩:∃b,b=(decide (l=[])):=⟨_,rfl⟩
 obtain⟨b2,hb2⟩:∃b,b=(b1||(decide (60 < (l.length:Int)))):=⟨_,rfl⟩
 obtain⟨b3,hb3⟩:∃b,b=(b2||(decide (((Ac l 0).toNat:Int)=40))):=⟨_,rfl⟩
 obtain⟨b4,hb4⟩:∃b,b=(b3||(decide (((Ac l 0).toNat:Int)=41))):=⟨_,rfl⟩
 obtain⟨b5,hb5⟩:∃b,b=(b4||(decide (l=[101,108,115,101]))):=⟨_,rfl⟩
 obtain⟨b6,hb6⟩:∃b,b=(b5||(decide (0≤A7 signsL l 0))):=⟨_,rfl⟩
 have qh1:(((!b1)=true→(!b1)=true))∧(((!b1)=true→(!b1)=true))∧((b1=false→(!b1)=true))∧(((!b2)=true→((!b2)=true)∧(0≤(0:Int)∧0 < l.length)))∧(((!b2)=true→(!b2)=true))∧((b2=false→(!b2)=true))∧(((!b3)=true→((!b3)=true)∧(0≤(0:Int)∧0 < l.length)))∧(((!b3)=true→(!b3)=true))∧((b3=false→(!b3)=true))∧(((!b4)=true→(!b4)=true))∧((b4=false→(!b4)=true)):=by
  rcases hp with hp|hp<;>simp_all
 refine Ad [9,10,11,14,15,16,19,20,21,24,25,29,34] [0,36] [] (hkg 22 (!b5) Vs (fun cg=>Yg)<|hkg 24 (!b5) Q3s (fun cg=>(Q5b signsL l (by decide)))<|hkg 27 (!b6) Vr (fun cg=>Xk)<|hkg 29 (!b6) Q3s (fun cg=>(Q5b Bj l (by decide)))<|hk0) (vk 3 8 (a:=.bool (decide (l=[]))) (b:=.bool b1) (Imp.of_eq (by rw[hb1]))<|vk 8 13 (a:=.bool (b1||(decide (60 < (l.length:Int))))) (b:=.bool b2) (Imp.of_eq (by rw[hb2]))<|vk 12 17 (a:=.bool (b2||(decide (((Ac l 0).toNat:Int)=40)))) (b:=.bool b3) (Imp.of_eq (by rw[hb3]))<|vk 17 22 (a:=.bool (b3||(decide (((Ac l 0).toNat:Int)=41)))) (b:=.bool b4) (Imp.of_eq (by rw[hb4]))<|vk 22 27 (a:=.bool (b4||(decide (l=[101,108,115,101])))) (b:=.bool b5) (Imp.of_eq (by rw[hb5]))<|vk 27 32 (a:=.bool (b5||(decide (0≤A7 signsL l 0)))) (b:=.bool b6) (Imp.of_eq (by rw[hb6]))<|v0) (cc 4 (p:=((!b1)=true→(!b1)=true)) qh1.1<|cc 5 (p:=((!b1)=true→(!b1)=true)) qh1.2.1<|cc 6 (p:=(b1=false→(!b1)=true)) qh1.2.2.1<|cc 9 (p:=((!b2)=true→((!b2)=true)∧(0≤(0:Int)∧0 < l.length))) qh1.2.2.2.1<|cc 10 (p:=((!b2)=true→(!b2)=true)) qh1.2.2.2.2.1<|cc 11 (p:=(b2=false→(!b2)=true)) qh1.2.2.2.2.2.1<|cc 14 (p:=((!b3)=true→((!b3)=true)∧(0≤(0:Int)∧0 < l.length))) qh1.2.2.2.2.2.2.1<|cc 15 (p:=((!b3)=true→(!b3)=true)) qh1.2.2.2.2.2.2.2.1<|cc 16 (p:=(b3=false→(!b3)=true)) qh1.2.2.2.2.2.2.2.2.1<|cc 19 (p:=((!b4)=true→(!b4)=true)) qh1.2.2.2.2.2.2.2.2.2.1<|cc 20 (p:=(b4=false→(!b4)=true)) qh1.2.2.2.2.2.2.2.2.2.2<|cc 24 (p:=(!b5)=true→(!b5)=true∧(!b5)=true) (by simp)<|cc 25 (p:=(b5=false→(!b5)=true)) (by simp)<|cc 29 (p:=(!b6)=true→(!b6)=true∧(!b6)=true) (by simp)<|cc 30 (p:=(b6=false→(!b6)=true)) (by simp)<|c0) ?_
 refine A5 (q:=b6||(decide (0≤A7 Bj l 0))) (by kernel_rfl) (fun c1=>?_) (fun c1=>?_)
 ·subst hb6 hb5 hb4 hb3 hb2 hb1
  try simp only[Ai] at c1
  refine Aa [] [2] ?_;refine Ae (RK wR [(.bool false)] ?_)
  have h0:Gd l=true:=by
   unfold Gd
   rcases c1 with (((((h|h)|h)|h)|h)|h)|h<;>first|(simp[h];done)|(have h':60 < l.length:=(by omega);simp[h'];done)|(have h':(Ac l 0).toNat=40:=(by omega);simp[h'];done)|(have h':(Ac l 0).toNat=41:=(by omega);simp[h'];done)
  exact Same.of_eq (by simp only[Af];rw[Bh,h0];rfl)
 ·subst hb6 hb5 hb4 hb3 hb2 hb1
  try simp only[Ai] at c1
  have hnh:Gd l=false:=by
   unfold Gd;simp only[Bool.or_eq_false_iff,decide_eq_false_iff_not];exact⟨c1.1.1.1.1.1.1,by omega,by omega,by omega,c1.1.1.2,c1.1.2,c1.2⟩
  refine Ag (Aa [] [0,3] ?_);refine Ab (Aa [] [0,3,38,39] ?_);refine Az (Bx (fun g y=>∃(k:Nat) (n:Int),k≤l.length∧Dv l 0=Dv (l.drop k) n∧(0≤n∧n≤k)∧l.length≤60∧Gd l=false∧y=⟨[(0,(.str l)),(3,(.int .i64 n)),(38,(.int .i64 ((l.length:Int)))),(39,(.int .i64 ((k:Int))))],[],0⟩∧g=l.length-k) [0,3,38,39] 0 _ (by omega) ⟨0,0,(by omega),(by rfl),(by omega),(by exact Va hnh),(by exact hnh),(by kernel_rfl),rfl⟩ ?_);rintro g1 y1 ⟨k,n,f1_1,f1_2,f1_3,f1_4,f1_5,rfl,rfl⟩;refine Aa [] [0,3,38,39,40] ?_;refine Ab ?_;refine Ax (p:=(k:Int) < (l.length:Int)) (by kernel_rfl) (fun c2=>?_) (fun c2=>?_)
  ·refine Ag (Ab ?_);refine Az (Aa [] [0,3,4,38,39] ?_);refine C8 (fun y=>¬((Ac l k).toNat < 33∨126 < (Ac l k).toNat)∧y=⟨[(0,(.str l)),(3,(.int .i64 ((if (Ac l k).toNat=40 then n+1 else if (Ac l k).toNat=41 then n-1 else n)))),(38,(.int .i64 ((l.length:Int)))),(39,(.int .i64 ((k:Int))))],[],0⟩) [0,3,38,39] 0 (by omega) ?_ ?_
   ·refine Ad [] [0,3,5,38,39] [] hk0 v0 (cc 2 (p:=(0≤(k:Int)∧k < l.length)) (by omega)<|c0) ?_;refine Az ?_
    obtain⟨b7,hb7⟩:∃b,b=(decide (((Ac l k).toNat:Int) < 33)):=⟨_,rfl⟩
    obtain⟨b8,hb8⟩:∃b,b=(b7||(decide (126 < ((Ac l k).toNat:Int)))):=⟨_,rfl⟩
    refine Ad (CS:=[(4,((!b7)=true→(!b7)=true)),(5,(b7=false→(!b7)=true))]) [49,50] [0,3,5,38,39,45] [] hk0 (vk 3 48 (a:=.bool (decide (((Ac l k).toNat:Int) < 33))) (b:=.bool b7) (Imp.of_eq (by rw[hb7]))<|vk 6 51 (a:=.bool (b7||(decide (126 < ((Ac l k).toNat:Int))))) (b:=.bool b8) (Imp.of_eq (by rw[hb8]))<|v0) (by refine cc _ ?_<|cc _ ?_ c0<;>simp) ?_;refine A5 (q:=b8) (by kernel_rfl) (fun c3=>?_) (fun c3=>?_)
    ·subst hb8 hb7
     try simp only[Ai] at c3
     have hub:(Ac l k).toNat < 33∨126 < (Ac l k).toNat:=by omega
     refine Aa [] [2] ?_;refine Ae (RK wR [(.bool false)] ?_);exact Same.of_eq (by simp only[Af];rw[Bh,f1_2,D6 (by omega),Dv,if_pos hub];simp)
    ·subst hb8 hb7
     try simp only[Ai] at c3
     have hub:¬((Ac l k).toNat < 33∨126 < (Ac l k).toNat):=by omega
     refine Aa [] [0,3,5,38,39,52] ?_;refine Ax (p:=((Ac l k).toNat:Int)=40) (by kernel_rfl) (fun c4=>?_) (fun c4=>?_)
     ·refine An (Av 0 [] [0,3,38,39] [] hk0 v0 (cc 1 (p:=(-9223372036854775808≤n+1∧n+1≤9223372036854775807)) (by omega)<|c0) ?_);refine⟨by kernel_rfl,?_,(Eq.trans (b:=(⟨[(0,(.str l)),(3,(.int .i64 (n+1))),(38,(.int .i64 ((l.length:Int)))),(39,(.int .i64 ((k:Int))))],[],0⟩:St)) (by kernel_rfl) (by rw[show(if (Ac l k).toNat=40 then n+1 else if (Ac l k).toNat=41 then n-1 else n)=n+1 from by(repeat' split)<;>omega]))⟩;exact hub
     ·refine Aa [] [0,3,38,39,57] ?_;refine Ax (p:=((Ac l k).toNat:Int)=41) (by kernel_rfl) (fun c5=>?_) (fun c5=>?_)
      ·refine An (Av 0 [] [0,3,38,39] [] hk0 v0 (cc 1 (p:=(-9223372036854775808≤n-1∧n-1≤9223372036854775807)) (by omega)<|c0) ?_);refine⟨by kernel_rfl,?_,(Eq.trans (b:=(⟨[(0,(.str l)),(3,(.int .i64 (n-1))),(38,(.int .i64 ((l.length:Int)))),(39,(.int .i64 ((k:Int))))],[],0⟩:St)) (by kernel_rfl) (by rw[show(if (Ac l k).toNat=40 then n+1 else if (Ac l k).toNat=41 then n-1 else n)=n-1 from by(repeat' split)<;>omega]))⟩;exact hub
      ·refine Ag ?_;refine⟨by kernel_rfl,?_,(Eq.trans (b:=(⟨[(0,(.str l)),(3,(.int .i64 n)),(38,(.int .i64 ((l.length:Int)))),(39,(.int .i64 ((k:Int))))],[],0⟩:St)) (by kernel_rfl) (by rw[show(if (Ac l k).toNat=40 then n+1 else if (Ac l k).toNat=41 then n-1 else n)=n from by(repeat' split)<;>omega]))⟩;exact hub
   ·rintro y1 ⟨hub,rfl⟩;refine Aa [] [0,3,38,39,63] ?_;refine Ax (p:=(if (Ac l k).toNat=40 then n+1 else if (Ac l k).toNat=41 then n-1 else n) < 0) (by kernel_rfl) (fun c6=>?_) (fun c6=>?_)
    ·refine Aa [] [2] ?_;refine Ae (RK wR [(.bool false)] ?_);exact Same.of_eq (by simp only[Af];rw[Bh,f1_2,Ra (by omega) hub];simp only[if_pos c6];simp)
    ·refine Ag ?_;refine An (Av 0 [] [0,3,38,39] [] hk0 v0 (cc 0 (p:=(-9223372036854775808≤(k:Int)+1∧(k:Int)+1≤9223372036854775807)) (by omega)<|c0) ?_);refine⟨by kernel_rfl,_,?_,k+1,(if (Ac l k).toNat=40 then n+1 else if (Ac l k).toNat=41 then n-1 else n),?_,?_,?_,?_,?_,(by kernel_rfl),rfl⟩
     ·omega
     ·omega
     ·rw[f1_2,Ra (by omega) hub];simp only[if_neg c6]
     ·constructor<;>((repeat' split)<;>omega)
     ·exact f1_4
     ·exact f1_5
  ·refine Bp (Aa [] [2] ?_);refine Ae (RK wR [(.bool (decide (n=0)))] ?_);exact Same.of_eq (by simp only[Af];rw[Bh,f1_5,f1_2,List.drop_of_length_le (by omega),Dv];simp)
theorem Q79 (s:List UInt8) :
  FnV Tryz.prog 57 [(.str s)] (.bool (Mb s)):=by
 refine A3 [.tmp 2] Tryz.func57 rfl Tryz.ntmps57 rfl rfl (fun B F hF=>?_);refine Aa [] [0] ?_
 obtain⟨b1,hb1⟩:∃b,b=(decide (s=[97,110,100])):=⟨_,rfl⟩
 obtain⟨b2,hb2⟩:∃b,b=(b1||(decide (s=[111,114]))):=⟨_,rfl⟩
 obtain⟨b3,hb3⟩:∃b,b=(b2||(decide (s=[105,102]))):=⟨_,rfl⟩
 obtain⟨b4,hb4⟩:∃b,b=(b3||(decide (s=[101,108,115,101]))):=⟨_,rfl⟩
 obtain⟨b5,hb5⟩:∃b,b=(b4||(decide (s=[119,105,116,104]))):=⟨_,rfl⟩
 obtain⟨b6,hb6⟩:∃b,b=(b5||(decide (s=[119,105,116,104,111,117,116]))):=⟨_,rfl⟩
 refine Ad (CS:=[(4,((!b1)=true→(!b1)=true)),(5,(b1=false→(!b1)=true)),(8,((!b2)=true→(!b2)=true)),(9,(b2=false→(!b2)=true)),(12,((!b3)=true→(!b3)=true)),(13,(b3=false→(!b3)=true)),(16,((!b4)=true→(!b4)=true)),(17,(b4=false→(!b4)=true)),(20,((!b5)=true→(!b5)=true)),(21,(b5=false→(!b5)=true))]) [6,7,10,11,14,15,18,19,22,23] [2] [] hk0 (vk 3 5 (a:=.bool (decide (s=[97,110,100]))) (b:=.bool b1) (Imp.of_eq (by rw[hb1]))<|vk 7 9 (a:=.bool (b1||(decide (s=[111,114])))) (b:=.bool b2) (Imp.of_eq (by rw[hb2]))<|vk 11 13 (a:=.bool (b2||(decide (s=[105,102])))) (b:=.bool b3) (Imp.of_eq (by rw[hb3]))<|vk 15 17 (a:=.bool (b3||(decide (s=[101,108,115,101])))) (b:=.bool b4) (Imp.of_eq (by rw[hb4]))<|vk 19 21 (a:=.bool (b4||(decide (s=[119,105,116,104])))) (b:=.bool b5) (Imp.of_eq (by rw[hb5]))<|vk 22 24 (a:=.bool (b5||(decide (s=[119,105,116,104,111,117,116])))) (b:=.bool b6) (Imp.of_eq (by rw[hb6]))<|v0) (by refine cc _ ?_<|cc _ ?_<|cc _ ?_<|cc _ ?_<|cc _ ?_<|cc _ ?_<|cc _ ?_<|cc _ ?_<|cc _ ?_<|cc _ ?_ c0<;>simp) ?_;refine Ae (RK wR [(.bool b6)] ?_);subst hb6 hb5 hb4 hb3 hb2 hb1;exact Same.of_eq (by simp only[Af];unfold Mb;simp only[Bool.or_assoc])
theorem Yh (s:List UInt8) :
  FnV Tryz.prog 58 [(.str s)] (.int .i64 (De s)):=by
 refine A3 [.tmp 2] Tryz.func58 rfl Tryz.ntmps58 rfl rfl (fun B F hF=>?_);refine Aa [] [0] ?_;refine Ab (Aa [] [3] ?_);refine Az (Aa [] [3,4] ?_);refine Ax (p:=s=[60]) (by kernel_rfl) (fun c1=>?_) (fun c1=>?_)
 ·refine Aa [] [2] ?_;refine Ae (RK wR [(.int .i64 1)] ?_);exact Same.of_eq (by simp only[Af];congr 1;simp[De, *])
 ·refine Aa [] [3,6] ?_;refine Ax (p:=s=[61]) (by kernel_rfl) (fun c2=>?_) (fun c2=>?_)
  ·refine Aa [] [2] ?_;refine Ae (RK wR [(.int .i64 2)] ?_);exact Same.of_eq (by simp only[Af];congr 1;simp[De, *])
  ·refine Aa [] [3,8] ?_;refine Ax (p:=s=[60,61]) (by kernel_rfl) (fun c3=>?_) (fun c3=>?_)
   ·refine Aa [] [2] ?_;refine Ae (RK wR [(.int .i64 3)] ?_);exact Same.of_eq (by simp only[Af];congr 1;simp[De, *])
   ·refine Aa [] [3,10] ?_;refine Ax (p:=s=[62]) (by kernel_rfl) (fun c4=>?_) (fun c4=>?_)
    ·refine Aa [] [2] ?_;refine Ae (RK wR [(.int .i64 4)] ?_);exact Same.of_eq (by simp only[Af];congr 1;simp[De, *])
    ·refine Aa [] [3,12] ?_;refine Ax (p:=s=[60,62]) (by kernel_rfl) (fun c5=>?_) (fun c5=>?_)
     ·refine Aa [] [2] ?_;refine Ae (RK wR [(.int .i64 5)] ?_);exact Same.of_eq (by simp only[Af];congr 1;simp[De, *])
     ·refine Aa [] [3,14] ?_;refine Ax (p:=s=[62,61]) (by kernel_rfl) (fun c6=>?_) (fun c6=>?_)
      ·refine Aa [] [2] ?_;refine Ae (RK wR [(.int .i64 6)] ?_);exact Same.of_eq (by simp only[Af];congr 1;simp[De, *])
      ·refine Aa [] [16] ?_;refine Ax (p:=s=[60,61,62]) (by kernel_rfl) (fun c7=>?_) (fun c7=>?_)
       ·refine Aa [] [2] ?_;refine Ae (RK wR [(.int .i64 7)] ?_);exact Same.of_eq (by simp only[Af];congr 1;simp[De, *])
       ·refine Ag (Aa [] [2] ?_);refine Ae (RK wR [(.int .i64 0)] ?_);exact Same.of_eq (by simp only[Af];congr 1;simp[De, *])
theorem Mm (l:List UInt8) (hl:l.length≤9223372036854775807) :
  FnV Tryz.prog 23 [(.str l)] (.bool (Bh l)):=by
 have hp:l.length < 1∨0 < l.length:=by omega
 refine A3 [.tmp 2] Tryz.func23 rfl Tryz.ntmps23 rfl rfl (fun B F hF=>?_);refine Aa [] [0] ?_;refine Ad [] [0,3] [] (hk 1 X6v (Q79 l)<|hk0) v0 c0 ?_;refine Ab ?_
 obtain⟨b1,hb1⟩:∃b,b=(decide ((l.length:Int) < 1)):=⟨_,rfl⟩
 obtain⟨b2,hb2⟩:∃b,b=(b1||(decide (60 < (l.length:Int)))):=⟨_,rfl⟩
 obtain⟨b3,hb3⟩:∃b,b=(b2||(decide (((Ac l 0).toNat:Int)=40))):=⟨_,rfl⟩
 obtain⟨b4,hb4⟩:∃b,b=(b3||(decide (((Ac l 0).toNat:Int)=41))):=⟨_,rfl⟩
 obtain⟨b5,hb5⟩:∃b,b=(b4||(Mb l)):=⟨_,rfl⟩
 have qh1:(((!b1)=true→(!b1)=true))∧(((!b1)=true→(!b1)=true))∧((b1=false→(!b1)=true))∧(((!b2)=true→((!b2)=true)∧(0≤(0:Int)∧0 < l.length)))∧(((!b2)=true→(!b2)=true))∧((b2=false→(!b2)=true))∧(((!b3)=true→((!b3)=true)∧(0≤(0:Int)∧0 < l.length)))∧(((!b3)=true→(!b3)=true))∧((b3=false→(!b3)=true))∧((b4=false→(!b4)=true)):=by
  rcases hp with hp|hp<;>simp_all
 refine Ad [12,13,14,17,18,19,22,23,24,27,30,32] [0,33] [] (hkg 23 (!b5) Q3x (fun cg=>Yh l)<|hk0) (vk 4 11 (a:=.bool (decide ((l.length:Int) < 1))) (b:=.bool b1) (Imp.of_eq (by rw[hb1]))<|vk 9 16 (a:=.bool (b1||(decide (60 < (l.length:Int))))) (b:=.bool b2) (Imp.of_eq (by rw[hb2]))<|vk 13 20 (a:=.bool (b2||(decide (((Ac l 0).toNat:Int)=40)))) (b:=.bool b3) (Imp.of_eq (by rw[hb3]))<|vk 18 25 (a:=.bool (b3||(decide (((Ac l 0).toNat:Int)=41)))) (b:=.bool b4) (Imp.of_eq (by rw[hb4]))<|vk 22 29 (a:=.bool (b4||(Mb l))) (b:=.bool b5) (Imp.of_eq (by rw[hb5]))<|v0) (cc 5 (p:=((!b1)=true→(!b1)=true)) qh1.1<|cc 6 (p:=((!b1)=true→(!b1)=true)) qh1.2.1<|cc 7 (p:=(b1=false→(!b1)=true)) qh1.2.2.1<|cc 10 (p:=((!b2)=true→((!b2)=true)∧(0≤(0:Int)∧0 < l.length))) qh1.2.2.2.1<|cc 11 (p:=((!b2)=true→(!b2)=true)) qh1.2.2.2.2.1<|cc 12 (p:=(b2=false→(!b2)=true)) qh1.2.2.2.2.2.1<|cc 15 (p:=((!b3)=true→((!b3)=true)∧(0≤(0:Int)∧0 < l.length))) qh1.2.2.2.2.2.2.1<|cc 16 (p:=((!b3)=true→(!b3)=true)) qh1.2.2.2.2.2.2.2.1<|cc 17 (p:=(b3=false→(!b3)=true)) qh1.2.2.2.2.2.2.2.2.1<|cc 20 (p:=(b4=false→(!b4)=true)) qh1.2.2.2.2.2.2.2.2.2<|cc 23 (p:=(!b5)=true→(!b5)=true) (by simp)<|cc 24 (p:=((!b5)=true→(!b5)=true)) (by simp)<|cc 25 (p:=(b5=false→(!b5)=true)) (by simp)<|c0) ?_
 refine A5 (q:=b5||(!decide ((De l)=0))) (by kernel_rfl) (fun c1=>?_) (fun c1=>?_)
 ·subst hb5 hb4 hb3 hb2 hb1
  try simp only[Ai] at c1
  refine Aa [] [2] ?_;refine Ae (RK wR [(.bool false)] ?_)
  have h0:Gd l=true:=by
   rw[←Za];unfold Qx
   rcases c1 with ((((h|h)|h)|h)|h)|h<;>first|(simp[h];done)|(have h':l.length < 1:=(by omega);simp[h'];done)|(have h':60 < l.length:=(by omega);simp[h'];done)|(have h':(Ac l 0).toNat=40:=(by omega);simp[h'];done)|(have h':(Ac l 0).toNat=41:=(by omega);simp[h'];done)|(have h':¬De l=0:=(by omega);simp[h'];done)
  exact Same.of_eq (by simp only[Af];rw[Bh,h0];rfl)
 ·subst hb5 hb4 hb3 hb2 hb1
  try simp only[Ai] at c1
  have hnh:Gd l=false:=by
   rw[←Za];unfold Qx;simp only[Bool.or_eq_false_iff,decide_eq_false_iff_not];exact⟨by omega,by omega,by omega,by omega,c1.1.2,by omega⟩
  refine Ag (Aa [] [0,4] ?_);refine Ab (Aa [] [0,4,5] ?_);refine Az (Bx (fun g y=>∃(k:Nat) (n:Int),k≤l.length∧Dv l 0=Dv (l.drop k) n∧(0≤n∧n≤k)∧l.length≤60∧Gd l=false∧y=⟨[(0,(.str l)),(4,(.int .i64 n)),(5,(.int .i64 ((k:Int))))],[],0⟩∧g=l.length-k) [0,4,5] 0 _ (by omega) ⟨0,0,(by omega),(by rfl),(by omega),(by exact Va hnh),(by exact hnh),(by kernel_rfl),rfl⟩ ?_);rintro g1 y1 ⟨k,n,f1_1,f1_2,f1_3,f1_4,f1_5,rfl,rfl⟩;refine Ab (Aa [] [0,4,5,37] ?_);refine Ax (p:=(k:Int) < (l.length:Int)) (by kernel_rfl) (fun c2=>?_) (fun c2=>?_)
  ·refine Ag (Ab ?_);refine Az (Ab ?_)
   obtain⟨b6,hb6⟩:∃b,b=(decide (((Ac l k).toNat:Int) < 33)):=⟨_,rfl⟩
   refine Ad (CS:=[(2,(0≤(k:Int)∧k < l.length)),(7,((!b6)=true→((!b6)=true∧(!b6)=true)∧(0≤(k:Int)∧k < l.length))),(8,((!b6)=true→(!b6)=true)),(9,(b6=false→(!b6)=true))]) [45,46,47,48] [0,4,5,49] [] hk0 (vk 5 44 (a:=.bool (decide (((Ac l k).toNat:Int) < 33))) (b:=.bool b6) (Imp.of_eq (by rw[hb6]))<|v0) (by refine cc _ ?_<|cc _ ?_<|cc _ ?_<|cc _ ?_ c0<;>(intros;simp_all;done)) ?_;refine A5 (q:=b6||(decide (126 < ((Ac l k).toNat:Int)))) (by kernel_rfl) (fun c3=>?_) (fun c3=>?_)
   ·subst hb6
    try simp only[Ai] at c3
    have hub:(Ac l k).toNat < 33∨126 < (Ac l k).toNat:=by omega
    refine Aa [] [2] ?_;refine Ae (RK wR [(.bool false)] ?_);exact Same.of_eq (by simp only[Af];rw[Bh,f1_2,D6 (by omega),Dv,if_pos hub];simp)
   ·subst hb6
    try simp only[Ai] at c3
    have hub:¬((Ac l k).toNat < 33∨126 < (Ac l k).toNat):=by omega
    refine Ag ?_;refine C8 (fun y=>y=⟨[(0,(.str l)),(4,(.int .i64 ((if (Ac l k).toNat=40 then n+1 else n)))),(5,(.int .i64 ((k:Int))))],[],0⟩) [0,4,5] 0 (by omega) ?_ ?_
    ·refine Ad [] [0,4,5,53] [] hk0 v0 (cc 2 (p:=(0≤(k:Int)∧k < l.length)) (by omega)<|c0) ?_;refine Ax (p:=((Ac l k).toNat:Int)=40) (by kernel_rfl) (fun c4=>?_) (fun c4=>?_)
     ·refine An (Av 0 [] [0,4,5] [] hk0 v0 (cc 1 (p:=(-9223372036854775808≤n+1∧n+1≤9223372036854775807)) (by omega)<|c0) ?_);refine⟨by kernel_rfl,(Eq.trans (b:=(⟨[(0,(.str l)),(4,(.int .i64 (n+1))),(5,(.int .i64 ((k:Int))))],[],0⟩:St)) (by kernel_rfl) (by rw[show(if (Ac l k).toNat=40 then n+1 else n)=n+1 from if_pos (by omega)]))⟩
     ·refine Ag ?_;refine⟨by kernel_rfl,(Eq.trans (b:=(⟨[(0,(.str l)),(4,(.int .i64 n)),(5,(.int .i64 ((k:Int))))],[],0⟩:St)) (by kernel_rfl) (by rw[show(if (Ac l k).toNat=40 then n+1 else n)=n from if_neg (by omega)]))⟩
    ·rintro y1 rfl;refine C8 (fun y=>y=⟨[(0,(.str l)),(4,(.int .i64 ((if (Ac l k).toNat=40 then n+1 else if (Ac l k).toNat=41 then n-1 else n)))),(5,(.int .i64 ((k:Int))))],[],0⟩) [0,4,5] 0 (by omega) ?_ ?_
     ·refine Ad [] [0,4,5,59] [] hk0 v0 (cc 2 (p:=(0≤(k:Int)∧k < l.length)) (by omega)<|c0) ?_;refine Ax (p:=((Ac l k).toNat:Int)=41) (by kernel_rfl) (fun c5=>?_) (fun c5=>?_)
      ·refine An (Av 0 [] [0,4,5] [] hk0 v0 (cc 1 (p:=(-9223372036854775808≤(if (Ac l k).toNat=40 then n+1 else n)-1∧(if (Ac l k).toNat=40 then n+1 else n)-1≤9223372036854775807)) (by omega)<|c0) ?_);refine⟨by kernel_rfl,(Eq.trans (b:=(⟨[(0,(.str l)),(4,(.int .i64 ((if (Ac l k).toNat=40 then n+1 else n)-1))),(5,(.int .i64 ((k:Int))))],[],0⟩:St)) (by kernel_rfl) (by rw[show(if (Ac l k).toNat=40 then n+1 else if (Ac l k).toNat=41 then n-1 else n)=(if (Ac l k).toNat=40 then n+1 else n)-1 from by(repeat' split)<;>omega]))⟩
      ·refine Ag ?_;refine⟨by kernel_rfl,(Eq.trans (b:=(⟨[(0,(.str l)),(4,(.int .i64 ((if (Ac l k).toNat=40 then n+1 else n)))),(5,(.int .i64 ((k:Int))))],[],0⟩:St)) (by kernel_rfl) (by rw[show(if (Ac l k).toNat=40 then n+1 else if (Ac l k).toNat=41 then n-1 else n)=(if (Ac l k).toNat=40 then n+1 else n) from by(repeat' split)<;>omega]))⟩
     ·rintro y2 rfl;refine Aa [] [0,4,5,63] ?_;refine Ax (p:=(if (Ac l k).toNat=40 then n+1 else if (Ac l k).toNat=41 then n-1 else n) < 0) (by kernel_rfl) (fun c6=>?_) (fun c6=>?_)
      ·refine Aa [] [2] ?_;refine Ae (RK wR [(.bool false)] ?_);exact Same.of_eq (by simp only[Af];rw[Bh,f1_2,Ra (by omega) hub];simp only[if_pos c6];simp)
      ·refine Ag ?_;refine An (Av 0 [] [0,4,5] [] hk0 v0 (cc 1 (p:=(-9223372036854775808≤(k:Int)+1∧(k:Int)+1≤9223372036854775807)) (by omega)<|c0) ?_);refine⟨by kernel_rfl,_,?_,k+1,(if (Ac l k).toNat=40 then n+1 else if (Ac l k).toNat=41 then n-1 else n),?_,?_,?_,?_,?_,(by kernel_rfl),rfl⟩
       ·omega
       ·omega
       ·rw[f1_2,Ra (by omega) hub];simp only[if_neg c6]
       ·constructor<;>((repeat' split)<;>omega)
       ·exact f1_4
       ·exact f1_5
  ·refine Bp (Aa [] [2] ?_);refine Ae (RK wR [(.bool (decide (n=0)))] ?_);exact Same.of_eq (by simp only[Af];rw[Bh,f1_5,f1_2,List.drop_of_length_le (by omega),Dv];simp)
end Sv
end
section
open Go Go.RowKit
namespace Sv
attribute [local irreducible] SW SO Bk
set_option maxHeartbeats 400000
set_option maxRecDepth 100000
theorem I1:Ak Tryz.prog 127:=Ao Tryz.func127 (by kernel_rfl) rfl
theorem Nj:Ak Tryz.prog 128:=Ao Tryz.func128 (by kernel_rfl) rfl
theorem H8:Ak Tryz.prog 130:=Ao Tryz.func130 (by kernel_rfl) rfl
theorem Q4a:Ak Tryz.prog 215:=Ao Tryz.func215 (by kernel_rfl) rfl
theorem Sd:Ak Tryz.prog 207:=Ao Tryz.func207 (by kernel_rfl) rfl
def Al (c:UInt8):Bool:=decide (48≤c.toNat)&&decide (c.toNat≤57)
def B1 (c:UInt8):Bool:=(decide (97≤c.toNat)&&decide (c.toNat≤122))||(decide (65≤c.toNat)&&decide (c.toNat≤90))
def Am (p:UInt8→Bool) (s:List UInt8):Nat:=(s.takeWhile p).length
theorem Fz (p:UInt8→Bool):∀s:List UInt8,Am p s≤s.length
 |[]=>Nat.le_refl _
 |a::r=>by
  have:=Fz p r;unfold Am at this ⊢;rw[List.takeWhile_cons];split<;>simp<;>omega
theorem V8 {p:UInt8→Bool}:∀{s:List UInt8} {i:Nat},i < s.length→(∀j,j < i→p (Ac s j)=true)→p (Ac s i)=false→Am p s=i
 |[],_,h,_,_=>by simp at h
 |a::r,0,_,_,h=>by
  have h:p a=false:=h;unfold Am;rw[List.takeWhile_cons,h];rfl
 |a::r,i+1,hi,h,hp=>by
  have h0:p a=true:=h 0 (by omega);have:=V8 (s:=r) (i:=i) (by simpa using hi) (fun j hj=>h (j+1) (by omega)) hp;unfold Am at this ⊢;rw[List.takeWhile_cons,h0];simp[this]
theorem V9 {p:UInt8→Bool}:∀{s:List UInt8},(∀j,j < s.length→p (Ac s j)=true)→Am p s=s.length
 |[],_=>rfl
 |a::r,h=>by
  have h0:p a=true:=h 0 (by simp);have:=V9 (s:=r) (fun j hj=>h (j+1) (by simpa using hj));unfold Am at this ⊢;rw[List.takeWhile_cons,h0];simp[this]
def Ff (a b:Bool) (g:Int):Int:=if (a&&!b)=true then g else if (b&&!a)=true then -g else 0
def Bu (s:List UInt8):Int:=if s=[]∨Al (Ac s 0)=true then 0 else if (Ac s 0).toNat=126 then -1 else if B1 (Ac s 0)=true then (Ac s 0).toNat else 256+((Ac s 0).toNat:Int)
theorem J0 (c:UInt8) :
  FnV Tryz.prog 127 [(.int .u8 ((c.toNat:Int)))] (.bool (Al c)):=by
 refine A3 [.tmp 2] Tryz.func127 rfl Tryz.ntmps127 rfl rfl (fun B F hF=>?_);refine Aa [] [0] ?_
 obtain⟨b1,hb1⟩:∃b,b=(decide (48≤(c.toNat:Int))):=⟨_,rfl⟩
 refine Ad (CS:=[(4,(b1=true→b1=true)),(5,(b1=true→b1=true))]) [6,7] [2] [] hk0 (vk 3 5 (a:=.bool (decide (48≤(c.toNat:Int)))) (b:=.bool b1) (Imp.of_eq (by rw[hb1]))<|v0) (by refine cc _ ?_<|cc _ ?_ c0<;>simp) ?_;refine Ae (RK wR [(.bool (b1&&(decide ((c.toNat:Int)≤57))))] ?_);subst hb1;refine Same.of_eq ?_;simp only[Af];congr 1;unfold Al;rw[Bool.eq_iff_iff];simp only[Bool.and_eq_true,Bool.or_eq_true,decide_eq_true_eq];omega
theorem Oo (c:UInt8) :
  FnV Tryz.prog 128 [(.int .u8 ((c.toNat:Int)))] (.bool (B1 c)):=by
 refine A3 [.tmp 2] Tryz.func128 rfl Tryz.ntmps128 rfl rfl (fun B F hF=>?_);refine Aa [] [0] ?_
 obtain⟨b1,hb1⟩:∃b,b=(decide (97≤(c.toNat:Int))):=⟨_,rfl⟩
 obtain⟨b2,hb2⟩:∃b,b=(b1&&(decide ((c.toNat:Int)≤122))):=⟨_,rfl⟩
 obtain⟨b3,hb3⟩:∃b,b=(b2||((decide (65≤(c.toNat:Int)))&&(decide ((c.toNat:Int)≤90)))):=⟨_,rfl⟩
 refine Ad (CS:=[(4,(b1=true→b1=true)),(5,(b1=true→b1=true)),(8,((!b2)=true→(!b2)=true)),(9,((!b2)=true→(!b2)=true)),(11,(((!b2)&&(decide (65≤(c.toNat:Int))))=true→((!b2)&&(decide (65≤(c.toNat:Int))))=true)),(12,((!b2)=true→((!b2)=true)∧((decide (65≤(c.toNat:Int)))=true→((!b2)&&(decide (65≤(c.toNat:Int))))=true))),(13,(b2=false→(!b2)=true))]) [6,7,10,11,12,13,14,15] [2] [] hk0 (vk 3 5 (a:=.bool (decide (97≤(c.toNat:Int)))) (b:=.bool b1) (Imp.of_eq (by rw[hb1]))<|vk 7 9 (a:=.bool (b1&&(decide ((c.toNat:Int)≤122)))) (b:=.bool b2) (Imp.of_eq (by rw[hb2]))<|vk 14 16 (a:=.bool (b2||((decide (65≤(c.toNat:Int)))&&(decide ((c.toNat:Int)≤90))))) (b:=.bool b3) (Imp.of_eq (by rw[hb3]))<|v0) (by refine cc _ ?_<|cc _ ?_<|cc _ ?_<|cc _ ?_<|cc _ ?_<|cc _ ?_<|cc _ ?_ c0<;>(intros;simp_all;done)) ?_;refine Ae (RK wR [(.bool b3)] ?_);subst hb3 hb2 hb1;refine Same.of_eq ?_;simp only[Af];congr 1;unfold B1;rw[Bool.eq_iff_iff];simp only[Bool.and_eq_true,Bool.or_eq_true,decide_eq_true_eq];omega
theorem Rc (a b:Bool) (g:Int) (hg : -1≤g∧g≤1) :
  FnV Tryz.prog 207 [(.bool a),(.bool b),(.int .i64 g)] (.int .i64 (Ff a b g)):=by
 refine A3 [.tmp 6] Tryz.func207 rfl Tryz.ntmps207 rfl rfl (fun B F hF=>?_);refine Aa [] [0,1,2] ?_;refine Ab ?_;refine Az (Ad (CS:=[(3,(a=true→a=true)),(4,(a=true→a=true))]) [10,11] [0,1,2,7] [] hk0 v0 (by refine cc _ ?_<|cc _ ?_ c0<;>simp) ?_);refine A5 (q:=a&&(!b)) (by kernel_rfl) (fun c1=>?_) (fun c1=>?_)
 ·try simp only[Ai] at c1
  refine Aa [] [6] ?_;refine Ae (RK wR [(.int .i64 g)] ?_);refine Same.of_eq ?_;simp only[Af];congr 1;unfold Ff
  cases a<;>cases b<;>first|rfl|(show 0-g = -g;omega)|(simp at c1;done)|(simp at c2;done)|contradiction
 ·try simp only[Ai] at c1
  refine Ad (CS:=[(3,(b=true→b=true)),(4,(b=true→b=true))]) [17,18] [2,14] [] hk0 v0 (by refine cc _ ?_<|cc _ ?_ c0<;>simp) ?_;refine A5 (q:=b&&(!a)) (by kernel_rfl) (fun c2=>?_) (fun c2=>?_)
  ·try simp only[Ai] at c2
   refine Ad [] [6] [] hk0 v0 (cc 1 (p:=(-9223372036854775808≤0-g∧0-g≤9223372036854775807)) (by omega)<|c0) ?_;refine Ae (RK wR [(.int .i64 (0-g))] ?_);refine Same.of_eq ?_;simp only[Af];congr 1;unfold Ff
   cases a<;>cases b<;>first|rfl|(show 0-g = -g;omega)|(simp at c1;done)|(simp at c2;done)|contradiction
  ·try simp only[Ai] at c2
   refine Ag (Aa [] [6] ?_);refine Ae (RK wR [(.int .i64 0)] ?_);refine Same.of_eq ?_;simp only[Af];congr 1;unfold Ff
   cases a<;>cases b<;>first|rfl|(show 0-g = -g;omega)|(simp at c1;done)|(simp at c2;done)|contradiction
theorem I6 (s:List UInt8) (a:AV) (p:UInt8→Bool) (hl:s.length≤9223372036854775806) (ha:∀c:UInt8,FunV Tryz.prog a [.int .u8 (c.toNat:Int)] (.bool (p c))) :
  FnV Tryz.prog 130 [(.str s),(.clo a)] (.int .i64 ((Am p s:Int))):=by
 refine A3 [.tmp 4] Tryz.func130 rfl Tryz.ntmps130 rfl rfl (fun B F hF=>?_);refine Aa [] [0,1] ?_;refine Aa [] [0,1,5] ?_;refine Ab ?_;refine Az (Bx (fun g y=>∃(i:Nat),i≤s.length∧(∀j,j < i→p (Ac s j)=true)∧y=⟨[(0,(.str s)),(1,(.clo a)),(5,(.int .i64 ((i:Int))))],[],0⟩∧g=s.length-i) [0,1,5] 0 _ (by omega) ⟨0,(by omega),(by exact fun j hj=>by omega),(by kernel_rfl),rfl⟩ ?_);rintro g1 y1 ⟨i,f1_1,f1_2,rfl,rfl⟩;refine Ab ?_;refine Ab (An ?_)
 obtain⟨b1,hb1⟩:∃b,b=(decide ((i:Int) < (s.length:Int))):=⟨_,rfl⟩
 refine Bm 5 0 [] [0,1,5,10] [] hk0 v0 c0 ?_;refine F5 10 (a:=.bool (decide ((i:Int) < (s.length:Int)))) (.bool b1) (by kernel_rfl) (Imp.of_eq (by rw[hb1])) ?_;refine Hs b1 (fun c1=>?_) (fun c1=>?_)
 ·refine F5 10 (a:=.bool b1) (.bool true) (by kernel_rfl) (Imp.of_eq (by rw[c1])) ?_;refine Bm 4 5 [] [0,1,5,10,11,14] [] hk0 v0 (cc 8 (p:=(0≤(i:Int)∧i < s.length)) (by(intros;simp_all;done))<|c0) ?_;refine Gn (s':=[(0,(.str s)),(1,(.clo a)),(5,(.int .i64 ((i:Int)))),(10,(.bool true)),(11,(.clo a)),(14,(.int .u8 (((Ac s i).toNat:Int)))),(15,(.bool (p (Ac s i))))]) (a:=(.clo a)) (al:=[(.int .u8 (((Ac s i).toNat:Int)))]) (r:=(.bool (p (Ac s i)))) (by kernel_rfl) (by kernel_rfl) (by kernel_rfl) (by kernel_rfl) (by kernel_rfl) ((ha (Ac s i)).clo) (by kernel_rfl) ?_;refine Av 10 [] [0,1,5,16] [] hk0 v0 c0 ?_;refine A5 (q:=p (Ac s i)) (by kernel_rfl) (fun c2=>?_) (fun c2=>?_)
  ·subst hb1
   try simp only[Ai] at c2
   refine Ag (Az ?_);refine An (Av 0 [] [0,1,5] [] hk0 v0 (cc 1 (p:=(-9223372036854775808≤(i:Int)+1∧(i:Int)+1≤9223372036854775807)) (by omega)<|c0) ?_);refine⟨by kernel_rfl,_,?_,i+1,?_,?_,(by kernel_rfl),rfl⟩
   ·simp_all;omega
   ·simp_all;omega
   ·intro j hj;by_cases h:j=i
    ·subst h;assumption
    ·exact f1_2 j (by omega)
  ·subst hb1
   try simp only[Ai] at c2
   refine Bp (Aa [] [4] ?_);refine Ae (RK wR [(.int .i64 ((i:Int)))] ?_);exact Same.of_eq (by simp only[Af];rw[V8 (i:=i) (by simp_all) f1_2 (by simp_all)])
 ·refine F5 10 (a:=.bool b1) (.bool false) (by kernel_rfl) (Imp.of_eq (by rw[c1])) ?_;refine Av 5 [] [0,1,5,16] [] hk0 v0 c0 ?_;refine Du (by kernel_rfl) ?_;refine Bp (Aa [] [4] ?_);refine Ae (RK wR [(.int .i64 ((i:Int)))] ?_);subst hb1;exact Same.of_eq (by simp only[Af];rw[V9 (fun j hj=>f1_2 j (by simp_all;omega))];congr 2;simp_all;omega)
theorem Xo (s:List UInt8) :
  FnV Tryz.prog 215 [(.str s)] (.int .i64 (Bu s)):=by
 have hb:=(Ac s 0).toNat_lt
 have hp:s=[]∨0 < s.length:=by cases s<;>simp
 refine A3 [.tmp 2] Tryz.func215 rfl Tryz.ntmps215 rfl rfl (fun B F hF=>?_);refine Aa [] [0] ?_;refine Ab (Az ?_)
 obtain⟨b1,hb1⟩:∃b,b=(decide (s=[])):=⟨_,rfl⟩
 have qh1:(((!b1)=true→((!b1)=true)∧(0≤(0:Int)∧0 < s.length))):=by
  rcases hp with hp|hp<;>first|(simp_all;done)|omega|(simp_all;omega)|(simp;omega)
 refine Ad [7,8] [0,3] [] (hkg 5 (!b1) I1 (fun cg=>J0 (Ac s 0))<|hk0) (vk 3 6 (a:=.bool (decide (s=[]))) (b:=.bool b1) (Imp.of_eq (by rw[hb1]))<|v0) (cc 4 (p:=((!b1)=true→((!b1)=true)∧(0≤(0:Int)∧0 < s.length))) qh1<|cc 5 (p:=(!b1)=true→(!b1)=true) (by simp)<|cc 6 (p:=(b1=false→(!b1)=true)) (by simp)<|c0) ?_;refine A5 (q:=b1||(Al (Ac s 0))) (by kernel_rfl) (fun c1=>?_) (fun c1=>?_)
 ·subst hb1
  try simp only[Ai] at c1
  refine Aa [] [2] ?_;refine Ae (RK wR [(.int .i64 0)] ?_);refine Same.of_eq ?_;simp only[Af];congr 1;unfold Bu;rw[if_pos c1]
 ·subst hb1
  try simp only[Ai] at c1
  have qh2:((0≤(0:Int)∧0 < s.length)):=by
   rcases hp with hp|hp<;>first|(simp_all;done)|omega|(simp_all;omega)|(simp;omega)
  refine Ad [] [0,11] [] hk0 v0 (cc 1 (p:=(0≤(0:Int)∧0 < s.length)) qh2<|c0) ?_;refine Ax (p:=((Ac s 0).toNat:Int)=126) (by kernel_rfl) (fun c2=>?_) (fun c2=>?_)
  ·refine Aa [] [2] ?_;refine Ae (RK wR [(.int .i64 (-1))] ?_);refine Same.of_eq ?_;simp only[Af];congr 1;unfold Bu;rw[if_neg (by simp_all),if_pos (by omega)]
  ·have qh3:((0≤(0:Int)∧0 < s.length)):=by
    rcases hp with hp|hp<;>first|(simp_all;done)|omega|(simp_all;omega)|(simp;omega)
   refine Ad [] [0,15] [] (hk 2 Nj (Oo (Ac s 0))<|hk0) v0 (cc 1 (p:=(0≤(0:Int)∧0 < s.length)) qh3<|c0) ?_;refine A5 (q:=B1 (Ac s 0)) (by kernel_rfl) (fun c3=>?_) (fun c3=>?_)
   ·try simp only[Ai] at c3
    have qh4:((0≤(0:Int)∧0 < s.length))∧((-9223372036854775808≤((Ac s 0).toNat:Int)∧((Ac s 0).toNat:Int)≤9223372036854775807)):=by
     rcases hp with hp|hp<;>first|(simp_all;done)|omega|(simp_all;omega)|(simp;omega)
    refine Ad [] [2] [] hk0 v0 (cc 1 (p:=(0≤(0:Int)∧0 < s.length)) qh4.1<|cc 2 (p:=(-9223372036854775808≤((Ac s 0).toNat:Int)∧((Ac s 0).toNat:Int)≤9223372036854775807)) qh4.2<|c0) ?_;refine Ae (RK wR [(.int .i64 (((Ac s 0).toNat:Int)))] ?_);refine Same.of_eq ?_;simp only[Af];congr 1;unfold Bu;rw[if_neg (by simp_all),if_neg (by omega),if_pos (by assumption)]
   ·try simp only[Ai] at c3
    refine Ag ?_
    have qh5:((0≤(0:Int)∧0 < s.length))∧((-9223372036854775808≤((Ac s 0).toNat:Int)∧((Ac s 0).toNat:Int)≤9223372036854775807))∧((-9223372036854775808≤256+((Ac s 0).toNat:Int)∧256+((Ac s 0).toNat:Int)≤9223372036854775807)):=by
     rcases hp with hp|hp<;>first|(simp_all;done)|omega|(simp_all;omega)|(simp;omega)
    refine Ad [] [2] [] hk0 v0 (cc 1 (p:=(0≤(0:Int)∧0 < s.length)) qh5.1<|cc 2 (p:=(-9223372036854775808≤((Ac s 0).toNat:Int)∧((Ac s 0).toNat:Int)≤9223372036854775807)) qh5.2.1<|cc 3 (p:=(-9223372036854775808≤256+((Ac s 0).toNat:Int)∧256+((Ac s 0).toNat:Int)≤9223372036854775807)) qh5.2.2<|c0) ?_;refine Ae (RK wR [(.int .i64 (256+((Ac s 0).toNat:Int)))] ?_);refine Same.of_eq ?_;simp only[Af];congr 1;unfold Bu;rw[if_neg (by simp_all),if_neg (by omega),if_neg (by simp_all)]
end Sv
end
section
open Go Go.RowKit
namespace Sv
theorem Ww (s:List UInt8) (c:UInt8) (hc:c.toNat < 128):FnV Tryz.prog 153 [.str s,.str [c]] (.str (Lib.trimLeftB s c)):=by
 intro F w vs hF hv;obtain⟨v,r1,rfl,h1,hv⟩:=hv.cons_inv;obtain⟨v2,rfl,h2⟩:=hv.single_inv;simp only[VR] at h1 h2;subst h1 h2;refine(Tryz.strings_TrimLeft_one ⟨s.toArray⟩ c hc w).mono ?_;rintro e w' ⟨he,rfl⟩;exact⟨_,he,Below.refl _ _,F,fun _ _ e=>e,hF,fun _ _ e => .inl e,by simp only[VR,List.toList_toArray]⟩
theorem Q7n (a b:List UInt8):FnV Tryz.prog 214 [.str a,.str b] (.int .i64 (Lib.compareBytes a b)):=by
 intro F w vs hF hv;obtain⟨v,r1,rfl,h1,hv⟩:=hv.cons_inv;obtain⟨v2,rfl,h2⟩:=hv.single_inv;simp only[VR] at h1 h2;subst h1 h2;refine(Tryz.strings_Compare ⟨a.toArray⟩ ⟨b.toArray⟩ w).mono ?_;rintro e w' ⟨he,rfl⟩;exact⟨_,he,Below.refl _ _,F,fun _ _ e=>e,hF,fun _ _ e => .inl e,by simp only[VR,List.toList_toArray]⟩
end Sv
end
section
open Go Go.RowKit
namespace Sv
attribute [local irreducible] SW SO Bk
set_option maxHeartbeats 1000000
set_option maxRecDepth 100000
theorem FnV.of_plain {P:Program} {f:Nat} {al:List AV} {r:AV} (vs0:List Value) (rv:Value) (ha:∀F vs,VRl (ofF F) al vs→vs=vs0) (hr:∀F,VR (ofF F) r rv) (h:∀w:World,Calls P f vs0.toArray w (Ret fun v w'=>v=rv∧Below w.heap.size w w')):FnV P f al r:=by
 intro F w vs hF hv;rw[ha F vs hv];refine(h w).mono ?_;rintro e w' ⟨v,he,rfl,hb⟩;exact⟨_,he,hb,F,fun _ _ e=>e,fun b o e=>(hb.block b (Dh (hF b o e))).trans (hF b o e),fun _ _ e => .inl e,hr F⟩
theorem Ua {P:Program} {f:Nat} {vs:Array Value} {w:World} {rv:Value} (h:Calls P f vs w (Ret fun v w'=>v=rv∧w=w')):Calls P f vs w (Ret fun v w'=>v=rv∧Below w.heap.size w w') :=
 h.mono fun e w' hh=>by
  obtain⟨v,he,h1,rfl⟩:=hh;exact⟨v,he,h1,Below.refl _ _⟩
theorem P6 {F:Nat→Option Obj} {a b:AV} {x y:Value} (ha:∀F v,VR (ofF F) a v→v=x) (hb:∀F v,VR (ofF F) b v→v=y) {vs:List Value} (h:VRl (ofF F) [a,b] vs):vs=[x,y]:=by
 obtain⟨v,r1,rfl,h1,hv⟩:=h.cons_inv;obtain⟨v2,rfl,h2⟩:=hv.single_inv;rw[ha _ _ h1,hb _ _ h2]
theorem Mg {l:List UInt8}:∀F v,VR (ofF F) (.str l) v→v=Go.Proofs.YtlamaeednbhjdaaGreatDoor.S l:=fun F v h=>by simpa only [VR] using h
theorem Q14 {k:IntKind} {n:Int}:∀F v,VR (ofF F) (.int k n) v→v = .int k n:=fun F v h=>by simpa only [VR] using h
theorem Y3n (l:List UInt8) (c:UInt8):FnV Tryz.prog 129 [.str l,.int .u8 (c.toNat:Int)] (.int .i64 (Lib.indexByte l c)) :=
 FnV.of_plain [S l,.int .u8 (c.toNat:Int)] (.int .i64 (Lib.indexByte l c)) (fun _ _ h=>P6 Mg Q14 h) (fun _=>by simp only[VR]) fun w=>Ua (Y3m l c w)
theorem Y3k (l:List UInt8) (hl:l.length≤9223372036854775807):FnV Tryz.prog 132 [.str l,.int .u8 45] (.int .i64 (B4 l 45 l.length)) :=
 FnV.of_plain [S l,.int .u8 45] (.int .i64 (B4 l 45 l.length)) (fun _ _ h=>P6 Mg Q14 h) (fun _=>by simp only[VR]) fun w=>Ua (Y3j l 45 w hl)
theorem Y3y (l:List UInt8):FnV Tryz.prog 97 [.str l,.str [58]] (.bool (l.contains 58)) :=
 FnV.of_plain [S l,S [58]] (.bool (l.contains 58)) (fun _ _ h=>P6 Mg Mg h) (fun _=>by simp only[VR]) fun w=>Ua (Y3x l 58 w)
theorem Y3w (l:List UInt8) (hl:l.length≤9223372036854775807):FnV Tryz.prog 131 [.str l,.str [58]] (.tup [.str (if 0≤Lib.indexByte l 58 then l.take (Lib.indexByte l 58).toNat else l),.str (if 0≤Lib.indexByte l 58 then l.drop ((Lib.indexByte l 58).toNat+1) else []),.bool (decide (0≤Lib.indexByte l 58))]):=by
 refine FnV.of_plain [S l,S [58]] (I5 l 58) (fun _ _ h=>P6 Mg Mg h) (fun F=>?_) fun w=>?_
 ·unfold I5;by_cases h:0≤Lib.indexByte l 58
  ·rw[if_pos h,if_pos h,if_pos h,decide_eq_true h];simp only[VR];exact⟨_,.cons (by simp only[VR]) (.cons (by simp only[VR]) (.cons (by simp only[VR]) .nil)),rfl⟩
  ·rw[if_neg h,if_neg h,if_neg h,decide_eq_false h];simp only[VR];exact⟨_,.cons (by simp only[VR]) (.cons (by simp only[VR]) (.cons (by simp only[VR]) .nil)),rfl⟩
 ·exact Y3v l 58 w hl
theorem X4i (r:List UInt8) (c:UInt8) : -1≤B4 r c r.length∧B4 r c r.length < r.length:=by
 rcases Q1t r c r.length with h|⟨q,h,hq⟩<;>omega
theorem R7 {l r ep v rl:List UInt8} (hh:Gz l=true) (hr:r=(if 0≤Lib.indexByte l 58 then l.drop ((Lib.indexByte l 58).toNat+1) else l)) (he:ep=(if 0≤Lib.indexByte l 58 then l.take (Lib.indexByte l 58).toNat else [])) (hd:0≤Lib.indexByte l 58→Gj (l.take (Lib.indexByte l 58).toNat)=true)
  (hv:v=(if 0≤B4 r 45 r.length then r.take (B4 r 45 r.length).toNat else r)) (hrl:rl=(if 0≤B4 r 45 r.length then r.drop ((B4 r 45 r.length).toNat+1) else [])) (hn:0≤B4 r 45 r.length→¬rl=[]):B6 l=(if v=[]∨r.contains 58=true then 30 else 0)∧O6 l=(ep,v,rl):=by
 constructor
 ·have ht:Jy l=Lr r:=by
   unfold Jy;rw[hh,Bool.true_and];by_cases h:0≤Lib.indexByte l 58
   ·rw[if_pos h,hd h,Bool.true_and,hr,if_pos h]
   ·rw[if_neg h,hr,if_neg h]
  have ht2:Lr r = !(decide (v=[])||r.contains 58):=by
   unfold Lr;by_cases h:0≤B4 r 45 r.length
   ·have:=hn h;rw[if_pos h] at hv hrl ⊢;rw[←hrl,←hv,decide_eq_false this,Bool.not_or];rfl
   ·rw[if_neg h] at hv ⊢;rw[hv,Bool.not_or]
  unfold B6;rw[ht,ht2];by_cases h1:v=[]<;>by_cases h2:r.contains 58=true<;>simp[h1,h2]
 ·unfold O6;simp only[←hr];rw[←he,←hv,←hrl]
theorem X32 (c:UInt8) :
  FnV Tryz.prog 126 [(.int .u8 ((c.toNat:Int)))] (.bool (Fg c)):=by
 refine A3 [.tmp 2] Tryz.func126 rfl Tryz.ntmps126 rfl rfl (fun B F hF=>?_);refine Aa [] [0] ?_
 obtain⟨b1,hb1⟩:∃b,b=((Al c)||(B1 c)):=⟨_,rfl⟩
 refine Ad (CS:=[(4,(!(Al c))=true→(!(Al c))=true),(5,((Al c)=false→(!(Al c))=true)),(8,(!b1)=true→(!b1)=true),(9,((!b1)=true→(!b1)=true)),(10,(b1=false→(!b1)=true))]) [6,10,12] [2] [] (hk 1 I1 (J0 c)<|hkg 4 (!(Al c)) Nj (fun cg=>Oo c)<|hkg 8 (!b1) X8l (fun cg=>Y3n midL c)<|hk0) (vk 7 9 (a:=.bool ((Al c)||(B1 c))) (b:=.bool b1) (Imp.of_eq (by rw[hb1]))<|v0) (by refine cc _ ?_<|cc _ ?_<|cc _ ?_<|cc _ ?_<|cc _ ?_ c0<;>simp) ?_;refine Ae (RK wR [(.bool (b1||(decide (0≤(Lib.indexByte midL c)))))] ?_);subst hb1;refine Same.of_eq ?_;simp only[Af];rw[Q19,Bool.or_assoc];rfl
theorem X52 {l:List UInt8} (c:(l=[]∨(60:Int) < (l.length:Int))∨¬(Am Fg l:Int)=(l.length:Int)):B6 l=30:=by
 refine Q3m ?_;unfold Gz;rcases c with (h|h)|h
 ·rw[h];rfl
 ·rw[decide_eq_false (show ¬l.length≤60 by omega)];simp
 ·rw[show l.all Fg=false from by cases hq:l.all Fg with|false=>rfl|true=>exact absurd ((Sk Fg l).2 hq) h];rfl
theorem X53 {l:List UInt8} (hh:Gz l=true) (h0:0≤Lib.indexByte l 58) (c:(l.take (Lib.indexByte l 58).toNat=[]∨(9:Int) < ((l.take (Lib.indexByte l 58).toNat).length:Int))∨¬(Am Al (l.take (Lib.indexByte l 58).toNat):Int)=((l.take (Lib.indexByte l 58).toNat).length:Int)):B6 l=30:=by
 have hb:Gj (l.take (Lib.indexByte l 58).toNat)=false:=by
  unfold Gj;rcases c with (h|h)|h
  ·rw[h];rfl
  ·rw[decide_eq_false (show ¬(l.take (Lib.indexByte l 58).toNat).length≤9 by omega)];simp
  ·rw[show(l.take (Lib.indexByte l 58).toNat).all I2=false from by cases hq:(l.take (Lib.indexByte l 58).toNat).all I2 with|false=>rfl|true=>exact absurd ((Sk I2 _).2 hq) h];rfl
 unfold B6 Jy;rw[hh,Bool.true_and,if_pos h0,hb];rfl
theorem Q3i {l r:List UInt8} (hh:Gz l=true) (hr:r=(if 0≤Lib.indexByte l 58 then l.drop ((Lib.indexByte l 58).toNat+1) else l)) (hd:0≤Lib.indexByte l 58→Gj (l.take (Lib.indexByte l 58).toNat)=true) (hy:0≤B4 r 45 r.length) (h:r.drop ((B4 r 45 r.length).toNat+1)=[]):B6 l=30:=by
 have ht:Jy l=Lr r:=by
  unfold Jy;rw[hh,Bool.true_and];by_cases h:0≤Lib.indexByte l 58
  ·rw[if_pos h,hd h,Bool.true_and,hr,if_pos h]
  ·rw[if_neg h,hr,if_neg h]
 unfold B6;rw[ht];unfold Lr;rw[if_pos hy,h];rfl
theorem R8 (l:List UInt8) (hl:l.length≤4611686018427387904) :
  FnV Tryz.prog 86 [(.str l)] (.tup [.agg [.str (Cj l).1,.str (Cj l).2.1,.str (Cj l).2.2],.int .i64 (B6 l)]):=by
 refine A3 [.cell 2 127,.tmp 3] Tryz.func86 rfl Tryz.ntmps86 rfl rfl (fun B F hF=>?_);refine Aa [] [0,2] ?_;refine Aa [] [0,2,4] ?_;refine Ab ?_
 obtain⟨b1,hb1⟩:∃b,b=(decide (l=[])):=⟨_,rfl⟩
 obtain⟨b2,hb2⟩:∃b,b=(b1||(decide (60 < (l.length:Int)))):=⟨_,rfl⟩
 refine Ad (CS:=[(4,((!b1)=true→(!b1)=true)),(5,((!b1)=true→(!b1)=true)),(6,(b1=false→(!b1)=true)),(10,(!b2)=true→(!b2)=true∧(!b2)=true),(12,((!b2)=true→(!b2)=true)),(13,((!b2)=true→(!b2)=true∧(!b2)=true)),(14,(b2=false→(!b2)=true))]) [14,15,16,19,20,22,23,24] [0,2,25] [] (hkg 10 (!b2) (al:=[(.str l),(.fn 126 [] [])]) H8 (fun cg=>(I6 l (.fn 126 [] []) Fg (by first|omega|(split<;>simp<;>omega)) (fun c=>FunV.of (by exact X8m) (X32 c))).of_args (ImpL.cons Imp.refl (ImpL.cons (Imp.clo rfl) ImpL.nil)))<|hk0) (vk 3 13 (a:=.bool (decide (l=[]))) (b:=.bool b1) (Imp.of_eq (by rw[hb1]))<|vk 8 18 (a:=.bool (b1||(decide (60 < (l.length:Int))))) (b:=.bool b2) (Imp.of_eq (by rw[hb2]))<|v0) (by refine cc _ ?_<|cc _ ?_<|cc _ ?_<|cc _ ?_<|cc _ ?_<|cc _ ?_<|cc _ ?_ c0<;>simp) ?_;refine A5 (q:=b2||(!decide ((Am Fg l:Int)=(l.length:Int)))) (by kernel_rfl) (fun c1=>?_) (fun c1=>?_)
 ·subst hb2 hb1
  try simp only[Ai] at c1
  refine Aa [] [2,3] ?_;refine Ae (RK wR [(.agg [(.str []),(.str []),(.str [])]),(.int .i64 30)] ?_);refine Same.of_eq ?_;simp only[Af];have h0:B6 l=30:=X52 c1;have h1:Cj l=([],[],[]):=Hq h0.symm;rw[h0,h1]
 ·subst hb2 hb1
  try simp only[Ai] at c1
  have hh:Gz l=true:=by
   unfold Gz;rw[show l.all Fg=true from (Sk Fg l).1 c1.2,decide_eq_true (show 1≤l.length by have:=List.length_pos_iff.2 c1.1.1;omega),decide_eq_true (by omega)];rfl
  refine Ag (Aa [] [0,2,5] ?_);refine Aa [] [0,2,5,6] ?_;refine C8 (fun y=>∃(r:List UInt8) (ep:List UInt8),r=(if 0≤Lib.indexByte l 58 then l.drop ((Lib.indexByte l 58).toNat+1) else l)∧ep=(if 0≤Lib.indexByte l 58 then l.take (Lib.indexByte l 58).toNat else [])∧(0≤Lib.indexByte l 58→Gj (l.take (Lib.indexByte l 58).toNat)=true)∧y=⟨[(2,(.ptr 0 0)),(5,(.ptr 1 0)),(6,(.str r))],[(0,(.row [(.str []),(.str []),(.str [])] 127)),(1,(.row [(.str ep),(.str []),(.str [])] 127))],2⟩) [2,5,6] 2 (by omega) ?_ ?_
  ·refine Ad [] [2,5,6,7,8,9] [] (hk 1 X8j (Y3w l (by omega))<|hk0) v0 c0 ?_;refine Aa [] [2,5,6,7,8,34] ?_;refine Ax (p:=0≤Lib.indexByte l 58) (by kernel_rfl) (fun c2=>?_) (fun c2=>?_)
   ·refine Ab ?_
    obtain⟨b3,hb3⟩:∃b,b=(decide ((if 0≤Lib.indexByte l 58 then l.take (Lib.indexByte l 58).toNat else l)=[])):=⟨_,rfl⟩
    obtain⟨b4,hb4⟩:∃b,b=(b3||(decide (9 < ((if 0≤Lib.indexByte l 58 then l.take (Lib.indexByte l 58).toNat else l).length:Int)))):=⟨_,rfl⟩
    refine Ad (CS:=[(4,((!b3)=true→(!b3)=true)),(5,((!b3)=true→(!b3)=true)),(6,(b3=false→(!b3)=true)),(9,(!b4)=true→(!b4)=true),(11,((!b4)=true→(!b4)=true)),(12,((!b4)=true→(!b4)=true∧(!b4)=true)),(13,(b4=false→(!b4)=true))]) [38,39,40,43,45,46,47] [2,5,7,8,48] [] (hkg 9 (!b4) (al:=[(.str ((if 0≤Lib.indexByte l 58 then l.take (Lib.indexByte l 58).toNat else l))),(.fn 127 [] [])]) H8 (fun cg=>(I6 (if 0≤Lib.indexByte l 58 then l.take (Lib.indexByte l 58).toNat else l) (.fn 127 [] []) Al (by first|omega|(split<;>simp<;>omega)) (fun c=>FunV.of (by exact I1) (J0 c))).of_args (ImpL.cons Imp.refl (ImpL.cons (Imp.clo rfl) ImpL.nil)))<|hk0) (vk 3 37 (a:=.bool (decide ((if 0≤Lib.indexByte l 58 then l.take (Lib.indexByte l 58).toNat else l)=[]))) (b:=.bool b3) (Imp.of_eq (by rw[hb3]))<|vk 7 41 (a:=.bool (b3||(decide (9 < ((if 0≤Lib.indexByte l 58 then l.take (Lib.indexByte l 58).toNat else l).length:Int))))) (b:=.bool b4) (Imp.of_eq (by rw[hb4]))<|v0) (by refine cc _ ?_<|cc _ ?_<|cc _ ?_<|cc _ ?_<|cc _ ?_<|cc _ ?_<|cc _ ?_ c0<;>simp) ?_
    refine A5 (q:=b4||(!decide ((Am Al (if 0≤Lib.indexByte l 58 then l.take (Lib.indexByte l 58).toNat else l):Int)=((if 0≤Lib.indexByte l 58 then l.take (Lib.indexByte l 58).toNat else l).length:Int)))) (by kernel_rfl) (fun c3=>?_) (fun c3=>?_)
    ·subst hb4 hb3
     try simp only[Ai] at c3
     refine Aa [] [2,3] ?_;refine Ae (RK wR [(.agg [(.str []),(.str []),(.str [])]),(.int .i64 30)] ?_);refine Same.of_eq ?_;simp only[Af];have h0:B6 l=30:=X53 hh c2 (by rw[if_pos c2] at c3;exact c3);have h1:Cj l=([],[],[]):=Hq h0.symm;rw[h0,h1]
    ·subst hb4 hb3
     try simp only[Ai] at c3
     have hdg:Gj (l.take (Lib.indexByte l 58).toNat)=true:=by
      rw[if_pos c2] at c3;unfold Gj;rw[show(l.take (Lib.indexByte l 58).toNat).all I2=true from (Sk I2 _).1 c3.2,decide_eq_true (show 1≤_ by have:=List.length_pos_iff.2 c3.1.1;omega),decide_eq_true (by omega)];rfl
     refine Ag ?_;refine An (Dd [] [2,5,6] ?_);refine⟨by kernel_rfl,(if 0≤Lib.indexByte l 58 then l.drop ((Lib.indexByte l 58).toNat+1) else []),(if 0≤Lib.indexByte l 58 then l.take (Lib.indexByte l 58).toNat else l),?_,?_,?_,(by kernel_rfl)⟩
     ·simp only[if_pos c2]
     ·simp only[if_pos c2]
     ·exact fun _=>hdg
   ·refine Ag ?_;refine⟨by kernel_rfl,l,[],?_,?_,?_,(by kernel_rfl)⟩
    ·simp only[if_neg c2]
    ·simp only[if_neg c2]
    ·exact fun h=>absurd h c2
  ·rintro y1 ⟨r,ep,hr,hep,hdg,rfl⟩
   have hrl:r.length≤l.length:=by rw[hr];split<;>simp
   have hyb:=X4i r 45;have hi58:=Q18 l 58;refine Aa [] [2,5,6] ?_;refine C8 (fun y=>∃(v:List UInt8) (rl:List UInt8),v=(if 0≤B4 r 45 r.length then r.take (B4 r 45 r.length).toNat else r)∧rl=(if 0≤B4 r 45 r.length then r.drop ((B4 r 45 r.length).toNat+1) else [])∧(0≤B4 r 45 r.length→¬rl=[])∧y=⟨[(2,(.ptr 0 0)),(5,(.ptr 1 0)),(6,(.str r))],[(0,(.row [(.str []),(.str []),(.str [])] 127)),(1,(.row [(.str ep),(.str v),(.str rl)] 127))],2⟩) [2,5,6] 2 (by omega) ?_ ?_
   ·refine Ad [] [2,5,6,10] [] (hk 1 X8i (Y3k r (by omega))<|hk0) v0 c0 ?_;refine Aa [] [2,5,6,10,58] ?_;refine Ax (p:=0≤(B4 r 45 r.length)) (by kernel_rfl) (fun c4=>?_) (fun c4=>?_)
    ·refine Co (CS:=[(2,(0≤(0:Int)∧(0:Int)≤B4 r 45 r.length∧B4 r 45 r.length≤(r.length:Int))),(5,(-9223372036854775808≤(B4 r 45 r.length)+1∧(B4 r 45 r.length)+1≤9223372036854775807)),(6,(0≤(B4 r 45 r.length)+1∧(B4 r 45 r.length)+1≤(r.length:Int)∧(r.length:Int)≤(r.length:Int)))]) [] [2,5,6] [] hk0 v0 (by refine cc _ ?_<|cc _ ?_<|cc _ ?_ c0<;>omega) ?_;refine Aa [] [2,5,6,70] ?_;refine Ax (p:=(r.take r.length).drop (((B4 r 45 r.length)+1).toNat)=[]) (by kernel_rfl) (fun c5=>?_) (fun c5=>?_)
     ·refine Aa [] [2,3] ?_;refine Ae (RK wR [(.agg [(.str []),(.str []),(.str [])]),(.int .i64 30)] ?_);refine Same.of_eq ?_;simp only[Af];have h0:B6 l=30:=Q3i hh hr hdg c4 (by have h:=c5;rw[List.take_length] at h;rw[←h];congr 1;omega);have h1:Cj l=([],[],[]):=Hq h0.symm;rw[h0,h1]
     ·refine Ag ?_;refine⟨by kernel_rfl,((r.take ((B4 r 45 r.length:Int).toNat)).drop 0),((r.take r.length).drop (((B4 r 45 r.length)+1).toNat)),?_,?_,?_,(by kernel_rfl)⟩
      ·rw[if_pos c4];simp
      ·rw[if_pos c4];try rw[List.take_length];congr 1;omega
      ·intro _;exact c5
    ·refine Ag ?_;refine⟨by kernel_rfl,r,[],?_,?_,?_,(by kernel_rfl)⟩
     ·rw[if_neg c4]
     ·rw[if_neg c4]
     ·exact fun h=>absurd h c4
   ·rintro y2 ⟨v,rl,hv,hrr,hnn,rfl⟩;refine Ab ?_
    obtain⟨b5,hb5⟩:∃b,b=(decide (v=[])):=⟨_,rfl⟩
    refine Ad (CS:=[(5,(!b5)=true→(!b5)=true),(6,(b5=false→(!b5)=true))]) [76] [2,5,78] [] (hkg 5 (!b5) X58 (fun cg=>Y3y r)<|hk0) (vk 4 75 (a:=.bool (decide (v=[]))) (b:=.bool b5) (Imp.of_eq (by rw[hb5]))<|v0) (by refine cc _ ?_<|cc _ ?_ c0<;>simp) ?_;refine A5 (q:=b5||(r.contains 58)) (by kernel_rfl) (fun c6=>?_) (fun c6=>?_)
    ·subst hb5
     try simp only[Ai] at c6
     refine Aa [] [2,3] ?_;refine Ae (RK wR [(.agg [(.str []),(.str []),(.str [])]),(.int .i64 30)] ?_);refine Same.of_eq ?_;simp only[Af]
     have h0:B6 l=30:=by rw[(R7 hh hr hep hdg hv hrr hnn).1,if_pos (by simpa using c6)]
     have h1:Cj l=([],[],[]):=Hq h0.symm;rw[h0,h1]
    ·subst hb5
     try simp only[Ai] at c6
     refine Ag (Aa [] [2,3] ?_);refine Ae (RK wR [(.agg [(.str ep),(.str v),(.str rl)]),(.int .i64 0)] ?_);have hf:=R7 hh hr hep hdg hv hrr hnn
     have h0:B6 l=0:=by rw[hf.1,if_neg (by simpa using c6)]
     exact Same.of_eq (by simp only[Af];rw[Q3k h0.symm,hf.2,h0])
end Sv
end
section
open Go Go.RowKit
namespace Sv
attribute [local irreducible] SW SO Bk
set_option maxHeartbeats 1000000
set_option maxRecDepth 100000
theorem Qu (c:UInt8) :
  FnV Tryz.prog 164 [(.int .u8 ((c.toNat:Int)))] (.bool (B1 c)):=by
 refine A3 [.tmp 2] Tryz.func164 rfl Tryz.ntmps164 rfl rfl (fun B F hF=>?_);refine Aa [] [0] ?_
 obtain⟨b1,hb1⟩:∃b,b=(decide (97≤(c.toNat:Int))):=⟨_,rfl⟩
 obtain⟨b2,hb2⟩:∃b,b=(b1&&(decide ((c.toNat:Int)≤122))):=⟨_,rfl⟩
 obtain⟨b3,hb3⟩:∃b,b=(b2||((decide (65≤(c.toNat:Int)))&&(decide ((c.toNat:Int)≤90)))):=⟨_,rfl⟩
 refine Ad (CS:=[(4,(b1=true→b1=true)),(5,(b1=true→b1=true)),(8,((!b2)=true→(!b2)=true)),(9,((!b2)=true→(!b2)=true)),(11,(((!b2)&&(decide (65≤(c.toNat:Int))))=true→((!b2)&&(decide (65≤(c.toNat:Int))))=true)),(12,((!b2)=true→((!b2)=true)∧((decide (65≤(c.toNat:Int)))=true→((!b2)&&(decide (65≤(c.toNat:Int))))=true))),(13,(b2=false→(!b2)=true))]) [6,7,10,11,12,13,14,15] [2] [] hk0 (vk 3 5 (a:=.bool (decide (97≤(c.toNat:Int)))) (b:=.bool b1) (Imp.of_eq (by rw[hb1]))<|vk 7 9 (a:=.bool (b1&&(decide ((c.toNat:Int)≤122)))) (b:=.bool b2) (Imp.of_eq (by rw[hb2]))<|vk 14 16 (a:=.bool (b2||((decide (65≤(c.toNat:Int)))&&(decide ((c.toNat:Int)≤90))))) (b:=.bool b3) (Imp.of_eq (by rw[hb3]))<|v0) (by refine cc _ ?_<|cc _ ?_<|cc _ ?_<|cc _ ?_<|cc _ ?_<|cc _ ?_<|cc _ ?_ c0<;>(intros;simp_all;done)) ?_;refine Ae (RK wR [(.bool b3)] ?_);subst hb3 hb2 hb1;refine Same.of_eq ?_;simp only[Af];congr 1;unfold B1;rw[Bool.eq_iff_iff];simp only[Bool.and_eq_true,Bool.or_eq_true,decide_eq_true_eq];omega
theorem Le (c:UInt8) :
  FnV Tryz.prog 165 [(.int .u8 ((c.toNat:Int)))] (.bool (Al c)):=by
 refine A3 [.tmp 2] Tryz.func165 rfl Tryz.ntmps165 rfl rfl (fun B F hF=>?_);refine Aa [] [0] ?_
 obtain⟨b1,hb1⟩:∃b,b=(decide (48≤(c.toNat:Int))):=⟨_,rfl⟩
 refine Ad (CS:=[(4,(b1=true→b1=true)),(5,(b1=true→b1=true))]) [6,7] [2] [] hk0 (vk 3 5 (a:=.bool (decide (48≤(c.toNat:Int)))) (b:=.bool b1) (Imp.of_eq (by rw[hb1]))<|v0) (by refine cc _ ?_<|cc _ ?_ c0<;>simp) ?_;refine Ae (RK wR [(.bool (b1&&(decide ((c.toNat:Int)≤57))))] ?_);subst hb1;refine Same.of_eq ?_;simp only[Af];congr 1;unfold Al;rw[Bool.eq_iff_iff];simp only[Bool.and_eq_true,Bool.or_eq_true,decide_eq_true_eq];omega
theorem inV (c:UInt8) (l:List UInt8) (hl:l.length≤4611686018427387904) :
  FnV Tryz.prog 137 [(.int .u8 ((c.toNat:Int))),(.str l)] (.bool (l.contains c)):=by
 refine A3 [.tmp 4] Tryz.func137 rfl Tryz.ntmps137 rfl rfl (fun B F hF=>?_);refine Aa [] [0,1] ?_;refine Ab (Aa [] [0,1,5] ?_);refine Az (Bx (fun g y=>∃(k:Nat),k≤l.length∧l.contains c=(l.drop k).contains c∧y=⟨[(0,(.int .u8 ((c.toNat:Int)))),(1,(.str l)),(5,(.int .i64 ((k:Int))))],[],0⟩∧g=l.length-k) [0,1,5] 0 _ (by omega) ⟨0,(by omega),(by rfl),(by kernel_rfl),rfl⟩ ?_);rintro g1 y1 ⟨k,f1_1,f1_2,rfl,rfl⟩;refine Ab (Aa [] [0,1,5,9] ?_);refine Ax (p:=(k:Int) < (l.length:Int)) (by kernel_rfl) (fun c1=>?_) (fun c1=>?_)
 ·refine Ag (Ab ?_);refine Az (Ad [] [0,1,5,16] [] hk0 v0 (cc 2 (p:=(0≤(k:Int)∧k < l.length)) (by omega)<|c0) ?_);refine Ax (p:=((Ac l k).toNat:Int)=(c.toNat:Int)) (by kernel_rfl) (fun c2=>?_) (fun c2=>?_)
  ·refine Aa [] [4] ?_;refine Ae (RK wR [(.bool true)] ?_);exact Same.of_eq (by rw[f1_2,D6 (by omega),show Ac l k=c from UInt8.toNat_inj.1 (by omega)];simp[Af])
  ·refine Ag ?_;refine An (Av 0 [] [0,1,5] [] hk0 v0 (cc 1 (p:=(-9223372036854775808≤(k:Int)+1∧(k:Int)+1≤9223372036854775807)) (by omega)<|c0) ?_);refine⟨by kernel_rfl,_,?_,k+1,?_,?_,(by kernel_rfl),rfl⟩
   ·omega
   ·omega
   ·rw[f1_2,D6 (by omega),List.contains_cons];have:¬c=Ac l k:=fun e=>c2 (by rw[e]);simp[this]
 ·refine Bp (Aa [] [4] ?_);refine Ae (RK wR [(.bool false)] ?_);exact Same.of_eq (by rw[f1_2,List.drop_of_length_le (by omega)];rfl)
theorem X0p (l:List UInt8) (hl:l.length≤4611686018427387904) :
  FnV Tryz.prog 135 [(.str l)] (.bool (l.all Fg&&(decide (1≤l.length)&&decide (l.length≤60)))):=by
 refine A3 [.tmp 2] Tryz.func135 rfl Tryz.ntmps135 rfl rfl (fun B F hF=>?_);refine Aa [] [0] ?_;refine Ab (Aa [] [0,3] ?_);refine Az (Bx (fun g y=>∃(k:Nat),k≤l.length∧(l.take k).all Fg=true∧y=⟨[(0,(.str l)),(3,(.int .i64 ((k:Int))))],[],0⟩∧g=l.length-k) [0,3] 0 _ (by omega) ⟨0,(by omega),(by rfl),(by kernel_rfl),rfl⟩ ?_);rintro g1 y1 ⟨k,f1_1,f1_2,rfl,rfl⟩;refine Ab (Aa [] [0,3,9] ?_);refine Ax (p:=(k:Int) < (l.length:Int)) (by kernel_rfl) (fun c1=>?_) (fun c1=>?_)
 ·refine Ag (Ab ?_);refine Az (Ad [] [0,3,4] [] (hk 3 Sf (Qu (Ac l k))<|hk0) v0 (cc 2 (p:=(0≤(k:Int)∧k < l.length)) (by omega)<|c0) ?_);refine Ad [] [0,3,4,5] [] (hk 3 Lt (Le (Ac l k))<|hk0) v0 (cc 2 (p:=(0≤(k:Int)∧k < l.length)) (by omega)<|c0) ?_
  obtain⟨b1,hb1⟩:∃b,b=(!(B1 (Ac l k))):=⟨_,rfl⟩
  obtain⟨b2,hb2⟩:∃b,b=(b1&&(!(Al (Ac l k)))):=⟨_,rfl⟩
  refine Ad (CS:=[(4,(b1=true→b1=true)),(5,(b1=true→b1=true)),(9,(b2=true→(b2=true∧b2=true)∧(0≤(k:Int)∧k < l.length))),(10,b2=true→b2=true),(11,(b2=true→b2=true)),(12,(b2=true→b2=true))]) [23,24,27,28,29,31] [0,3,32] [] (hkg 10 b2 Q4q (fun cg=>inV (Ac l k) midL (by decide))<|hk0) (vk 3 22 (a:=.bool (!(B1 (Ac l k)))) (b:=.bool b1) (Imp.of_eq (by rw[hb1]))<|vk 7 26 (a:=.bool (b1&&(!(Al (Ac l k))))) (b:=.bool b2) (Imp.of_eq (by rw[hb2]))<|v0) (by refine cc _ ?_<|cc _ ?_<|cc _ ?_<|cc _ ?_<|cc _ ?_<|cc _ ?_ c0<;>(intros;simp_all;done)) ?_;refine A5 (q:=b2&&(!(midL.contains (Ac l k)))) (by kernel_rfl) (fun c2=>?_) (fun c2=>?_)
  ·subst hb2 hb1
   try simp only[Ai] at c2
   refine Aa [] [2] ?_;refine Ae (RK wR [(.bool false)] ?_);exact Same.of_eq (by simp only[Af];rw[Q6f (p:=Fg) (k:=k) (by omega) (by show(Al _||(B1 _||_))=false;simp_all)];rfl)
  ·subst hb2 hb1
   try simp only[Ai] at c2
   refine Ag ?_;refine An (Av 0 [] [0,3] [] hk0 v0 (cc 1 (p:=(-9223372036854775808≤(k:Int)+1∧(k:Int)+1≤9223372036854775807)) (by omega)<|c0) ?_);refine⟨by kernel_rfl,_,?_,k+1,?_,?_,(by kernel_rfl),rfl⟩
   ·omega
   ·omega
   ·refine Q6d (by omega) f1_2 ?_;show(Al _||(B1 _||_))=true;simp only[Bool.or_eq_true];by_cases a1:Al (Ac l k)=true<;>by_cases a2:B1 (Ac l k)=true<;>simp_all
 ·refine Bp ?_
  obtain⟨b3,hb3⟩:∃b,b=(decide (1≤(l.length:Int))):=⟨_,rfl⟩
  refine Ad (CS:=[(5,(b3=true→b3=true)),(6,(b3=true→b3=true)),(7,(b3=true→b3=true))]) [37,38,39] [2] [] hk0 (vk 4 36 (a:=.bool (decide (1≤(l.length:Int)))) (b:=.bool b3) (Imp.of_eq (by rw[hb3]))<|v0) (by refine cc _ ?_<|cc _ ?_<|cc _ ?_ c0<;>simp) ?_;refine Ae (RK wR [(.bool (b3&&(decide ((l.length:Int)≤60))))] ?_);subst hb3
  have hall:l.all Fg=true:=by rw[List.take_of_length_le (by omega)] at f1_2;exact f1_2
  exact Same.of_eq (by simp only[Af];rw[hall,show decide ((1:Int)≤(l.length:Int))=decide (1≤l.length) from decide_eq_decide.2 (by omega),show decide ((l.length:Int)≤60)=decide (l.length≤60) from decide_eq_decide.2 (by omega)];rfl)
theorem X1d (l:List UInt8) (hl:l.length≤4611686018427387904) :
  FnV Tryz.prog 136 [(.str l)] (.bool (Gj l)):=by
 refine A3 [.tmp 2] Tryz.func136 rfl Tryz.ntmps136 rfl rfl (fun B F hF=>?_);refine Aa [] [0] ?_;refine Ab (Aa [] [0,3] ?_);refine Az (Bx (fun g y=>∃(k:Nat),k≤l.length∧(l.take k).all I2=true∧y=⟨[(0,(.str l)),(3,(.int .i64 ((k:Int))))],[],0⟩∧g=l.length-k) [0,3] 0 _ (by omega) ⟨0,(by omega),(by rfl),(by kernel_rfl),rfl⟩ ?_);rintro g1 y1 ⟨k,f1_1,f1_2,rfl,rfl⟩;refine Ab (Aa [] [0,3,8] ?_);refine Ax (p:=(k:Int) < (l.length:Int)) (by kernel_rfl) (fun c1=>?_) (fun c1=>?_)
 ·refine Ag (Ab ?_);refine Az (Ad [] [0,3,4] [] (hk 3 Lt (Le (Ac l k))<|hk0) v0 (cc 2 (p:=(0≤(k:Int)∧k < l.length)) (by omega)<|c0) ?_);refine Aa [] [0,3,16] ?_;refine A5 (q:=!(Al (Ac l k))) (by kernel_rfl) (fun c2=>?_) (fun c2=>?_)
  ·try simp only[Ai] at c2
   refine Aa [] [2] ?_;refine Ae (RK wR [(.bool false)] ?_);exact Same.of_eq (by simp only[Af];unfold Gj;rw[Q6f (p:=I2) (k:=k) (by omega) (by show Al _=false;simp_all)];rfl)
  ·try simp only[Ai] at c2
   refine Ag ?_;refine An (Av 0 [] [0,3] [] hk0 v0 (cc 1 (p:=(-9223372036854775808≤(k:Int)+1∧(k:Int)+1≤9223372036854775807)) (by omega)<|c0) ?_);refine⟨by kernel_rfl,_,?_,k+1,?_,?_,(by kernel_rfl),rfl⟩
   ·omega
   ·omega
   ·refine Q6d (by omega) f1_2 ?_;show Al _=true;simp_all
 ·refine Bp ?_
  obtain⟨b1,hb1⟩:∃b,b=(decide (1≤(l.length:Int))):=⟨_,rfl⟩
  refine Ad (CS:=[(5,(b1=true→b1=true)),(6,(b1=true→b1=true)),(7,(b1=true→b1=true))]) [21,22,23] [2] [] hk0 (vk 4 20 (a:=.bool (decide (1≤(l.length:Int)))) (b:=.bool b1) (Imp.of_eq (by rw[hb1]))<|v0) (by refine cc _ ?_<|cc _ ?_<|cc _ ?_ c0<;>simp) ?_;refine Ae (RK wR [(.bool (b1&&(decide ((l.length:Int)≤9))))] ?_);subst hb1
  have hall:l.all I2=true:=by rw[List.take_of_length_le (by omega)] at f1_2;exact f1_2
  exact Same.of_eq (by simp only[Af];unfold Gj;rw[hall,show decide ((1:Int)≤(l.length:Int))=decide (1≤l.length) from decide_eq_decide.2 (by omega),show decide ((l.length:Int)≤9)=decide (l.length≤9) from decide_eq_decide.2 (by omega)];rfl)
theorem Qy (l:List UInt8) (hl:l.length≤4611686018427387904) :
  FnV Tryz.prog 91 [(.str l)] (.tup [.agg [.str (Cj l).1,.str (Cj l).2.1,.str (Cj l).2.2],.int .i64 (B6 l)]):=by
 refine A3 [.cell 2 127,.tmp 3] Tryz.func91 rfl Tryz.ntmps91 rfl rfl (fun B F hF=>?_);refine Aa [] [0,2] ?_;refine Ad [] [0,2,4] [] (hk 1 X8g (X0p l hl)<|hk0) v0 c0 ?_;refine Ab (Aa [] [0,2,12] ?_);refine A5 (q:=!(Gz l)) (by kernel_rfl) (fun c1=>?_) (fun c1=>?_)
 ·try simp only[Ai] at c1
  refine Aa [] [2,3] ?_;refine Ae (RK wR [(.agg [(.str []),(.str []),(.str [])]),(.int .i64 30)] ?_);refine Same.of_eq ?_;simp only[Af];have h0:B6 l=30:=Q3m (by simpa using c1);have h1:Cj l=([],[],[]):=Hq h0.symm;rw[h0,h1]
 ·try simp only[Ai] at c1
  have hh:Gz l=true:=by simpa using c1
  refine Ag (Aa [] [0,2,5] ?_);refine C8 (fun y=>∃(r:List UInt8) (ep:List UInt8),r=(if 0≤Lib.indexByte l 58 then l.drop ((Lib.indexByte l 58).toNat+1) else l)∧ep=(if 0≤Lib.indexByte l 58 then l.take (Lib.indexByte l 58).toNat else [])∧(0≤Lib.indexByte l 58→Gj (l.take (Lib.indexByte l 58).toNat)=true)∧y=⟨[(0,(.str r)),(2,(.ptr 0 0)),(5,(.ptr 1 0))],[(0,(.row [(.str []),(.str []),(.str [])] 127)),(1,(.row [(.str ep),(.str []),(.str [])] 127))],2⟩) [0,2,5] 2 (by omega) ?_ ?_
  ·refine Aa [] [0,2,5,6] ?_;refine Az (Bx (fun g y=>∃(i:Nat),i≤l.length∧Jd l 58 i∧y=⟨[(0,(.str l)),(2,(.ptr 0 0)),(5,(.ptr 1 0)),(6,(.int .i64 ((i:Int))))],[(0,(.row [(.str []),(.str []),(.str [])] 127)),(1,(.row [(.str []),(.str []),(.str [])] 127))],2⟩∧g=l.length-i) [0,2,5,6] 2 _ (by omega) ⟨0,(by omega),(by exact X42 l 58),(by kernel_rfl),rfl⟩ ?_);rintro g1 y1 ⟨i,f1_1,f1_2,rfl,rfl⟩;refine Ab (Aa [] [0,2,5,6,17] ?_);refine Ax (p:=(i:Int) < (l.length:Int)) (by kernel_rfl) (fun c2=>?_) (fun c2=>?_)
   ·refine Ag ?_;refine Ab (Az ?_);refine Ab (Ad [] [0,2,5,6,23] [] hk0 v0 (cc 2 (p:=(0≤(i:Int)∧i < l.length)) (by omega)<|c0) ?_);refine Cr (p:=((Ac l i).toNat:Int)=58) (by kernel_rfl) (fun c3=>?_) (fun c3=>?_)
    ·refine Bp ?_;refine An (Av 0 [] [0,2,5,6] [] hk0 v0 (cc 1 (p:=(-9223372036854775808≤(i:Int)+1∧(i:Int)+1≤9223372036854775807)) (by omega)<|c0) ?_);refine⟨by kernel_rfl,_,?_,i+1,?_,?_,(by kernel_rfl),rfl⟩
     ·omega
     ·omega
     ·exact X41 f1_2 (by omega) (fun e=>by rw[e] at c3;simp at c3)
    ·refine Ag (Ad [] [0,2,5,6,7] [] (hk 3 X8f (X1d ((l.take i).drop 0) (by simp;omega))<|hk0) v0 (cc 2 (p:=(0≤(0:Int)∧(0:Int)≤(i:Int)∧(i:Int)≤(l.length:Int))) (by omega)<|c0) ?_);refine Ab (Aa [] [0,2,5,6,29] ?_);refine A5 (q:=!(Gj ((l.take i).drop 0))) (by kernel_rfl) (fun c4=>?_) (fun c4=>?_)
     ·try simp only[Ai] at c4
      refine Aa [] [2,3] ?_;refine Ae (RK wR [(.agg [(.str []),(.str []),(.str [])]),(.int .i64 30)] ?_);refine Same.of_eq ?_;simp only[Af];have h0:B6 l=30:=X54 (Q2b f1_2 (by omega) (UInt8.toNat_inj.1 (by show _=58;omega))) (by simpa using c4);have h1:Cj l=([],[],[]):=Hq h0.symm;rw[h0,h1]
     ·try simp only[Ai] at c4
      refine Ag (Ad [] [0,2,5,6] [] hk0 v0 (cc 2 (p:=(0≤(0:Int)∧(0:Int)≤(i:Int)∧(i:Int)≤(l.length:Int))) (by omega)<|c0) ?_);refine Ad (CS:=[(2,(-9223372036854775808≤(i:Int)+1∧(i:Int)+1≤9223372036854775807)),(3,(0≤(i:Int)+1∧(i:Int)+1≤(l.length:Int)∧(l.length:Int)≤(l.length:Int)))]) [] [0,2,5] [] hk0 v0 (by refine cc _ ?_<|cc _ ?_ c0<;>omega) ?_;refine Bp ?_;refine⟨by kernel_rfl,((l.take l.length).drop (i+1)),((l.take i).drop 0),?_,?_,?_,(by kernel_rfl)⟩
      all_goals have hz:Lib.indexByte l 58=(i:Int):=Q2b f1_2 (by omega) (UInt8.toNat_inj.1 (by show _=58;omega))
      all_goals rw[hz]
      ·rw[if_pos (by omega),List.take_length,Int.toNat_natCast];try (congr 1;omega)
      ·rw[if_pos (by omega),Int.toNat_natCast];simp
      ·intro _;rw[Int.toNat_natCast];simpa using c4
   ·refine Bp ?_;refine⟨by kernel_rfl,l,[],?_,?_,?_,(by kernel_rfl)⟩
    all_goals have hz:Lib.indexByte l 58 = -1:=X43 f1_2 (by omega)
    all_goals rw[hz]
    ·rw[if_neg (by omega)]
    ·rw[if_neg (by omega)]
    ·intro h;exact absurd h (by omega)
  ·rintro y1 ⟨r,ep,hr,hep,hdg,rfl⟩
   have hrl:r.length≤l.length:=by rw[hr];split<;>simp
   refine Aa [] [0,2,5] ?_;refine C8 (fun y=>∃(v:List UInt8) (rl:List UInt8),v=(if 0≤B4 r 45 r.length then r.take (B4 r 45 r.length).toNat else r)∧rl=(if 0≤B4 r 45 r.length then r.drop ((B4 r 45 r.length).toNat+1) else [])∧(0≤B4 r 45 r.length→¬rl=[])∧y=⟨[(0,(.str r)),(2,(.ptr 0 0)),(5,(.ptr 1 0))],[(0,(.row [(.str []),(.str []),(.str [])] 127)),(1,(.row [(.str ep),(.str v),(.str rl)] 127))],2⟩) [0,2,5] 2 (by omega) ?_ ?_
   ·refine Ad [] [0,2,5,8] [] hk0 v0 (cc 2 (p:=(-9223372036854775808≤(r.length:Int)-1∧(r.length:Int)-1≤9223372036854775807)) (by omega)<|c0) ?_;refine Az (Bx (fun g y=>∃(k:Nat),k≤r.length∧B4 r 45 r.length=B4 r 45 k∧y=⟨[(0,(.str r)),(2,(.ptr 0 0)),(5,(.ptr 1 0)),(8,(.int .i64 ((k:Int)-1)))],[(0,(.row [(.str []),(.str []),(.str [])] 127)),(1,(.row [(.str ep),(.str r),(.str [])] 127))],2⟩∧g=k+1) [0,2,5,8] 2 _ (by omega) ⟨r.length,(by omega),(by rfl),(by kernel_rfl),rfl⟩ ?_);rintro g2 y2 ⟨k,f2_1,f2_2,rfl,rfl⟩;refine Ab (Aa [] [0,2,5,8,45] ?_);refine Ax (p:=0≤((k:Int)-1)) (by kernel_rfl) (fun c5=>?_) (fun c5=>?_)
    ·refine Ag (Ab ?_);refine Az (Ad [] [0,2,5,8,51] [] hk0 v0 (cc 2 (p:=(0≤(k:Int)-1∧((k:Int)-1).toNat < r.length)) (by omega)<|c0) ?_);refine Ax (p:=((Ac r (((k:Int)-1).toNat)).toNat:Int)=45) (by kernel_rfl) (fun c6=>?_) (fun c6=>?_)
     ·have hk1:((k:Int)-1).toNat=k-1:=by omega
      rw[hk1] at c6;refine Ad [] [0,2,5,8] [] hk0 v0 (cc 2 (p:=(0≤(0:Int)∧(0:Int)≤(k:Int)-1∧(k:Int)-1≤(r.length:Int))) (by omega)<|c0) ?_;refine Ad (CS:=[(2,(-9223372036854775808≤((k:Int)-1)+1∧((k:Int)-1)+1≤9223372036854775807)),(3,(0≤((k:Int)-1)+1∧((k:Int)-1)+1≤(r.length:Int)∧(r.length:Int)≤(r.length:Int)))]) [] [0,2,5] [] hk0 v0 (by refine cc _ ?_<|cc _ ?_ c0<;>omega) ?_;refine Ab (Aa [] [0,2,5,63] ?_);refine Ax (p:=(r.take r.length).drop ((((k:Int)-1)+1).toNat)=[]) (by kernel_rfl) (fun c7=>?_) (fun c7=>?_)
      ·refine Aa [] [2,3] ?_;refine Ae (RK wR [(.agg [(.str []),(.str []),(.str [])]),(.int .i64 30)] ?_);refine Same.of_eq ?_;simp only[Af]
       have h0:B6 l=30:=by
        have hy:B4 r 45 r.length=((k-1:Nat):Int):=by rw[f2_2,Oq (by omega),if_pos (UInt8.toNat_inj.1 (by show _=45;omega))]
        exact Q3i hh hr hdg (by omega) (by rw[hy,Int.toNat_natCast,←c7];simp;congr 1;omega)
       have h1:Cj l=([],[],[]):=Hq h0.symm;rw[h0,h1]
      ·refine Ag (Bp ?_);refine⟨by kernel_rfl,((r.take (((k:Int)-1).toNat)).drop 0),((r.take r.length).drop ((((k:Int)-1)+1).toNat)),?_,?_,?_,(by kernel_rfl)⟩
       all_goals have hy:B4 r 45 r.length=((k-1:Nat):Int):=by rw[f2_2,Oq (by omega),if_pos (UInt8.toNat_inj.1 (by show _=45;omega))]
       all_goals rw[hy]
       ·rw[if_pos (by omega),Int.toNat_natCast];simp;try (congr 1;omega)
       ·rw[if_pos (by omega),Int.toNat_natCast];simp;try (congr 1;omega)
       ·exact fun _=>c7
     ·have hk1:((k:Int)-1).toNat=k-1:=by omega
      rw[hk1] at c6;refine Ag ?_;refine An (Av 0 [] [0,2,5,8] [] hk0 v0 (cc 1 (p:=(-9223372036854775808≤((k:Int)-1)-1∧((k:Int)-1)-1≤9223372036854775807)) (by omega)<|c0) ?_);refine⟨by kernel_rfl,_,?_,(k-1),?_,?_,(Eq.trans (b:=(⟨[(0,(.str r)),(2,(.ptr 0 0)),(5,(.ptr 1 0)),(8,(.int .i64 (((k:Int)-1)-1)))],[(0,(.row [(.str []),(.str []),(.str [])] 127)),(1,(.row [(.str ep),(.str r),(.str [])] 127))],2⟩:St)) (by kernel_rfl) (by rw[show(k:Int)-1-1=((k-1:Nat):Int)-1 from by omega])),rfl⟩
      ·omega
      ·omega
      ·rw[f2_2,Oq (by omega),if_neg (fun e=>c6 (by rw[e];rfl))]
    ·refine Bp ?_;refine⟨by kernel_rfl,r,[],?_,?_,?_,(by kernel_rfl)⟩
     all_goals have hy:B4 r 45 r.length = -1:=by rw[f2_2,show k=0 by omega];rfl
     all_goals rw[hy]
     ·rw[if_neg (by omega)]
     ·rw[if_neg (by omega)]
     ·intro h;exact absurd h (by omega)
   ·rintro y2 ⟨v,rl,hv,hrr,hnn,rfl⟩;refine Ab ?_
    obtain⟨b1,hb1⟩:∃b,b=(decide (v=[])):=⟨_,rfl⟩
    refine Ad (CS:=[(5,(!b1)=true→(!b1)=true),(6,(b1=false→(!b1)=true))]) [69] [2,5,71] [] (hkg 5 (!b1) Q4q (fun cg=>inV 58 r (by omega))<|hk0) (vk 4 68 (a:=.bool (decide (v=[]))) (b:=.bool b1) (Imp.of_eq (by rw[hb1]))<|v0) (by refine cc _ ?_<|cc _ ?_ c0<;>simp) ?_;refine A5 (q:=b1||(r.contains 58)) (by kernel_rfl) (fun c8=>?_) (fun c8=>?_)
    ·subst hb1
     try simp only[Ai] at c8
     refine Aa [] [2,3] ?_;refine Ae (RK wR [(.agg [(.str []),(.str []),(.str [])]),(.int .i64 30)] ?_);refine Same.of_eq ?_;simp only[Af]
     have h0:B6 l=30:=by rw[(R7 hh hr hep hdg hv hrr hnn).1,if_pos (by simpa using c8)]
     have h1:Cj l=([],[],[]):=Hq h0.symm;rw[h0,h1]
    ·subst hb1
     try simp only[Ai] at c8
     refine Ag (Aa [] [2,3] ?_);refine Ae (RK wR [(.agg [(.str ep),(.str v),(.str rl)]),(.int .i64 0)] ?_);have hf:=R7 hh hr hep hdg hv hrr hnn
     have h0:B6 l=0:=by rw[hf.1,if_neg (by simpa using c8)]
     exact Same.of_eq (by simp only[Af];rw[Q3k h0.symm,hf.2,h0])
end Sv
end
section
open Go Go.RowKit
structure PkgT where
 name:List UInt8
 evr:List UInt8
 arch:List UInt8
 vendor:List UInt8
 provides:List DepT
 requires:List DepT
 pre:List DepT
 conflicts:List DepT
 obsoletes:List DepT
 recommends:List DepT
 supplements:List DepT
 files:List (List UInt8)
 deriving Inhabited
structure RepoT where
 name:List UInt8
 prio:Int
 inst:Bool
 pkgs:List PkgT
 deriving Inhabited
def PkgT.depSize (p:PkgT):Nat:=argsSize p.provides+argsSize p.requires+argsSize p.pre+argsSize p.conflicts+argsSize p.obsoletes+argsSize p.recommends+argsSize p.supplements
def Hp:List (List UInt8)→Nat
 |[]=>0
 |x::r=>1+x.length+Hp r
theorem Kp:∀l:List (List UInt8),l.length≤Hp l
 |[]=>Nat.zero_le _
 |x::r=>by have:=Kp r;simp only[Hp,List.length_cons];omega
theorem Vm:∀{l:List (List UInt8)} {i:Nat},i < l.length→(nth l i).length≤Hp l
 |[],_,h=>by simp at h
 |x::r,0,_=>by simp only[Hp];show x.length≤_;omega
 |x::r,i+1,h=>by
  have:=Vm (l:=r) (i:=i) (by simpa using h);simp only[Hp];show(nth r i).length≤_;omega
def PkgT.size (p:PkgT):Nat:=1+p.name.length+p.evr.length+p.arch.length+p.vendor.length+p.depSize+Hp p.files
theorem PkgT.sizes (p:PkgT):p.name.length≤p.size∧p.evr.length≤p.size∧p.arch.length≤p.size∧p.vendor.length≤p.size∧p.depSize≤p.size∧Hp p.files≤p.size:=by
 unfold PkgT.size;omega
namespace Sv
noncomputable def Ar (p:PkgT):AV:=.agg [.str p.name,.str p.evr,.str p.arch,.str p.vendor,Dk p.provides,Dk p.requires,Dk p.pre,Dk p.conflicts,Dk p.obsoletes,Dk p.recommends,Dk p.supplements,B3 p.files]
noncomputable def Bg (r:RepoT):AV:=.agg [.str r.name,.int .i64 r.prio,.bool r.inst,Aj 12 Ar r.pkgs]
theorem Q9x {α β:Type} [Inhabited α] (f:α→β) (l:List α) (i:Nat):(l.map f).set i (f (nth l i))=l.map f:=by
 refine List.ext_getElem? fun j=>?_;rw[List.getElem?_set];by_cases h:i=j
 ·subst h;by_cases hi:i < l.length
  ·simp[hi,nth]
  ·rw[if_pos rfl,if_neg (by simpa using hi),List.getElem?_eq_none (by simpa using hi)]
 ·rw[if_neg h]
theorem Rz {α β:Type} [Inhabited α] (f:α→β) {l:List α} {i:Nat} (h:i < l.length):(l.map f)[i]? = some (f (nth l i)):=by simp[nth,h]
theorem Gs (d:DepT):argsSize d.args+1+d.name.length+d.evr.length=d.size:=by cases d;simp only[DepT.size,DepT.args,DepT.name,DepT.evr]
theorem Et:∀l:List DepT,l.length≤argsSize l
 |[]=>Nat.zero_le _
 |d::r=>by
  have:=Et r
  have:1≤d.size:=by cases d;simp only[DepT.size];omega
  simp only[argsSize,List.length_cons];omega
theorem Q5y {l:List DepT} {i:Nat} (h:i < l.length):argsSize (nth l i).args < argsSize l:=by
 have h1:=I8 (l:=l) (i:=i) h;have h2:=Gs (nth l i);omega
theorem Zc {α β:Type} [Inhabited α] {l:List α} (f:α→β):(List.range l.length).map (fun k=>f (nth l k))=l.map f:=by
 refine List.ext_getElem (by simp) fun j h1 h2=>?_;simp only[List.length_map,List.length_range] at h1;simp[nth,h1]
theorem X2g {α:Type} [Inhabited α] (f:α→AV) (l:List α):([]:List AV)++(List.range l.length).map (fun k=>f (nth l k))=l.map f:=by rw[List.nil_append,Zc]
end Sv
end
section
open Go Go.RowKit
namespace Sv
attribute [local irreducible] SW SO Bk
set_option maxHeartbeats 1000000
set_option maxRecDepth 100000
def E2 {α:Type} (p:α→Bool):List α→Int
 |[] => -1
 |x::r=>if p x then 0 else if E2 p r < 0 then -1 else E2 p r+1
theorem M7 {α:Type} [Inhabited α] {p:α→Bool}:∀{l:List α} {i:Nat},i < l.length→(∀j,j < i→p (nth l j)=false)→p (nth l i)=true→E2 p l=(i:Int)
 |[],_,h,_,_=>by simp at h
 |x::r,0,_,_,h=>by
  have:p x=true:=h;simp[E2,this]
 |x::r,i+1,hi,h,hp=>by
  have h0:p x=false:=h 0 (by omega);have:=M7 (l:=r) (i:=i) (by simpa using hi) (fun j hj=>h (j+1) (by omega)) hp;unfold E2;rw[if_neg (by simp[h0]),this,if_neg (by omega)];omega
theorem M6 {α:Type} [Inhabited α] {p:α→Bool}:∀{l:List α},(∀j,j < l.length→p (nth l j)=false)→E2 p l = -1
 |[],_=>rfl
 |x::r,h=>by
  have h0:p x=false:=h 0 (by simp);have:=M6 (l:=r) (fun j hj=>h (j+1) (by simpa using hj));unfold E2;rw[if_neg (by simp[h0]),this];rfl
theorem M8 {α:Type} (p:α→Bool):∀l:List α,decide (0≤E2 p l)=l.any p
 |[]=>rfl
 |x::r=>by
  have:=M8 p r;unfold E2;rw[List.any_cons,←this];split
  ·rename_i h;simp[h]
  ·rename_i h
   have h':p x=false:=by simpa using h
   rw[h',Bool.false_or];split
   ·rename_i h2;rw[decide_eq_false (by omega),decide_eq_false (by omega)]
   ·rename_i h2;rw[decide_eq_true (by omega),decide_eq_true (by omega)]
theorem R2 {d:DepT} (h:d.kind=1):B2 d=Ho d.name d.op d.evr d.args.length:=by cases d;unfold B2;exact if_pos h
theorem Kn {d:DepT} (h:¬d.kind=1):B2 d=(!Gg d.kind d.name d.op d.evr d.args.length&&argsForm d.kind d.args):=by cases d;unfold B2;exact if_neg h
theorem X2b {d:DepT} (h:d.kind=1):D9 d=1:=by cases d;unfold D9;exact if_pos h
theorem X2c {d:DepT} (h:¬d.kind=1):D9 d=argsParts d.args:=by cases d;unfold D9;exact if_neg h
theorem X3d (d:DepT):Ez d=(if d.kind=1 then 1 else 0)+argsNames d.args:=by cases d;unfold Ez;rfl
theorem X3o (k:Int):(Bt [((4:Int),(3:Int)),(6,2)] k).getD 0=E0 k:=by
 have:=X3n k;have e:Eb (Eb ([]:List (Int × Int)) 4 3) 6 2=[(4,3),(6,2)]:=rfl;rw[e] at this;cases h:Bt [((4:Int),(3:Int)),(6,2)] k<;>simp_all
theorem X9a (l:List DepT) (a:AV) (p:DepT→Bool) (hl:l.length≤4611686018427387904) (ha:∀i,i < l.length→FunV Tryz.prog a [(.agg [(.int .i64 ((nth l i).kind)),(.str ((nth l i).name)),(.int .i64 ((nth l i).op)),(.str ((nth l i).evr)),(.row 5 (nth l i).args.length (depAt (nth l i).args))])] (.bool (p (nth l i)))) :
  FnV Tryz.prog 192 [(Aj 5 Ap l),(.clo a)] (.int .i64 (E2 p l)):=by
 refine A3 [.tmp 4] Tryz.func192 rfl Tryz.ntmps192 rfl rfl (fun B F hF=>?_);refine Aa [] [0,1] ?_;refine Ab (Aa [] [0,1,7,8] ?_);refine Az (Bx (fun g y=>∃(i:Nat),i≤l.length∧(∀j,j < i→p (nth l j)=false)∧y=⟨[(0,(Aj 5 Ap l)),(1,(.clo a)),(7,(.int .i64 ((l.length:Int)))),(8,(.int .i64 ((i:Int))))],[],0⟩∧g=l.length-i) [0,1,7,8] 0 _ (by omega) ⟨0,(by omega),(by exact fun j hj=>by omega),(by kernel_rfl),rfl⟩ ?_);rintro g1 y1 ⟨i,f1_1,f1_2,rfl,rfl⟩;refine Aa [] [0,1,7,8,9] ?_;refine Ab ?_;refine Ax (p:=(i:Int) < (l.length:Int)) (by kernel_rfl) (fun c1=>?_) (fun c1=>?_)
 ·refine Ag (Ab ?_);refine Az (Aa [] [0,1,5,7,8] ?_);refine Ab ?_;refine An (Bm 5 0 [] [0,1,5,7,8,11,15] [] hk0 v0 (cc 3 (p:=(0≤(i:Int)∧i < l.length)) (by omega)<|c0) ?_);refine Gn (s':=[(0,(Aj 5 Ap l)),(1,(.clo a)),(5,(.int .i64 ((i:Int)))),(7,(.int .i64 ((l.length:Int)))),(8,(.int .i64 ((i:Int)))),(11,(.clo a)),(15,(.agg [(.int .i64 ((nth l i).kind)),(.str ((nth l i).name)),(.int .i64 ((nth l i).op)),(.str ((nth l i).evr)),(.row 5 (nth l i).args.length (depAt (nth l i).args))])),(16,(.bool (p (nth l i))))]) (a:=(.clo a)) (al:=[(.agg [(.int .i64 ((nth l i).kind)),(.str ((nth l i).name)),(.int .i64 ((nth l i).op)),(.str ((nth l i).evr)),(.row 5 (nth l i).args.length (depAt (nth l i).args))])]) (r:=(.bool (p (nth l i)))) (by kernel_rfl) (by kernel_rfl) (by kernel_rfl) (by kernel_rfl) (by kernel_rfl) ((ha i (by omega)).clo) (by kernel_rfl) ?_;refine Br ?_;refine A5 (q:=p (nth l i)) (by kernel_rfl) (fun c2=>?_) (fun c2=>?_)
  ·try simp only[Ai] at c2
   refine Aa [] [4] ?_;refine Ae (RK wR [(.int .i64 ((i:Int)))] ?_);exact Same.of_eq (by rw[M7 (by omega) f1_2 (by simp_all)];rfl)
  ·try simp only[Ai] at c2
   refine Ag ?_;refine An (Av 0 [] [0,1,7,8] [] hk0 v0 (cc 0 (p:=(-9223372036854775808≤(i:Int)+1∧(i:Int)+1≤9223372036854775807)) (by omega)<|c0) ?_);refine⟨by kernel_rfl,_,?_,i+1,?_,?_,(by kernel_rfl),rfl⟩
   ·omega
   ·omega
   ·intro j hj;by_cases h:j=i
    ·subst h;simp_all
    ·exact f1_2 j (by omega)
 ·refine Bp (Aa [] [4] ?_);refine Ae (RK wR [(.int .i64 (-1))] ?_);exact Same.of_eq (by rw[M6 (fun j hj=>f1_2 j (by omega))];rfl)
theorem X9b (l:List DepT) (a:AV) (p:DepT→Bool) (hl:l.length≤4611686018427387904) (ha:∀i,i < l.length→FunV Tryz.prog a [(.agg [(.int .i64 ((nth l i).kind)),(.str ((nth l i).name)),(.int .i64 ((nth l i).op)),(.str ((nth l i).evr)),(.row 5 (nth l i).args.length (depAt (nth l i).args))])] (.bool (p (nth l i)))) :
  FnV Tryz.prog 181 [(Aj 5 Ap l),(.clo a)] (.bool (l.any p)):=by
 refine A3 [.tmp 4] Tryz.func181 rfl Tryz.ntmps181 rfl rfl (fun B F hF=>?_);refine Aa [] [0,1] ?_;refine Ad [] [4] [] (hk 2 X7o (X9a l a p hl ha)<|hk0) v0 c0 ?_;refine Ae (RK wR [(.bool (decide (0≤(E2 p l))))] ?_);exact Same.of_eq (by simp only[Af];rw[M8])
theorem X5g (a d:DepT) (ih:FnV Tryz.prog 155 [Ap a] (.bool (B2 a))) :
  FnV Tryz.prog 182 [(.agg [(.int .i64 a.kind),(.str a.name),(.int .i64 a.op),(.str a.evr),(.row 5 a.args.length (depAt a.args))]),(.fp (.agg [(.int .i64 d.kind),(.str d.name),(.int .i64 d.op),(.str d.evr),(.row 5 d.args.length (depAt d.args))]))] (.bool (Nf d.kind a)):=by
 refine A3 [.tmp 3] Tryz.func182 rfl Tryz.ntmps182 rfl rfl (fun B F hF=>?_);refine Ad [] [1,2] [(1,2)] hk0 v0 c0 ?_
 obtain⟨b1,hb1⟩:∃b,b=(decide (a.kind=1)):=⟨_,rfl⟩
 obtain⟨b2,hb2⟩:∃b,b=(b1||(decide (a.kind=5))):=⟨_,rfl⟩
 refine Ad (CS:=[(5,((!b1)=true→(!b1)=true)),(6,((!b1)=true→(!b1)=true)),(7,(b1=false→(!b1)=true)),(10,((!b2)=true→(!b2)=true)),(11,((!b2)=true→(!b2)=true)),(12,(b2=false→(!b2)=true))]) [9,10,11,14,15,16] [1,2,4] [] hk0 (vk 4 8 (a:=.bool (decide (a.kind=1))) (b:=.bool b1) (Imp.of_eq (by rw[hb1]))<|vk 9 13 (a:=.bool (b1||(decide (a.kind=5)))) (b:=.bool b2) (Imp.of_eq (by rw[hb2]))<|v0) (by refine cc _ ?_<|cc _ ?_<|cc _ ?_<|cc _ ?_<|cc _ ?_<|cc _ ?_ c0<;>simp) ?_
 obtain⟨b3,hb3⟩:∃b,b=(decide (5≤d.kind)):=⟨_,rfl⟩
 obtain⟨b4,hb4⟩:∃b,b=(b3&&(!(b2||(decide (a.kind=6))))):=⟨_,rfl⟩
 refine Ad (CS:=[(5,(b3=true→b3=true)),(6,(b3=true→b3=true)),(9,(!b4)=true→(!b4)=true),(10,((!b4)=true→(!b4)=true)),(11,(b4=false→(!b4)=true))]) [22,23,26,28] [3] [] (hkg 9 (!b4) Q4n (fun cg=>ih)<|hk0) (vk 4 21 (a:=.bool (decide (5≤d.kind))) (b:=.bool b3) (Imp.of_eq (by rw[hb3]))<|vk 8 25 (a:=.bool (b3&&(!(b2||(decide (a.kind=6)))))) (b:=.bool b4) (Imp.of_eq (by rw[hb4]))<|v0) (by refine cc _ ?_<|cc _ ?_<|cc _ ?_<|cc _ ?_<|cc _ ?_ c0<;>simp) ?_;refine Ae (RK wR [(.bool (b4||(!(B2 a))))] ?_);subst hb4 hb3 hb2 hb1;refine Same.of_eq ?_;simp only[Af];congr 1;unfold Nf Ir;rw[Bool.eq_iff_iff];simp only[Bool.and_eq_true,Bool.or_eq_true,Bool.not_eq_true',Bool.and_eq_false_iff,Bool.or_eq_false_iff,decide_eq_true_eq,decide_eq_false_iff_not];cases B2 a<;>simp<;>omega
theorem X5m (d:DepT) (hs:d.size≤4194304) (ih:∀i,i < d.args.length→FnV Tryz.prog 155 [Ap (nth d.args i)] (.bool (B2 (nth d.args i)))) :
  FnV Tryz.prog 155 [(.agg [(.int .i64 d.kind),(.str d.name),(.int .i64 d.op),(.str d.evr),(.row 5 d.args.length (depAt d.args))])] (.bool (B2 d)):=by
 have hda:=Gs d;have hal:=Et d.args;refine A3 [.tmp 2] Tryz.func155 rfl Tryz.ntmps155 rfl rfl (fun B F hF=>?_);refine Ad [] [1] [(1,1)] hk0 v0 c0 ?_;refine Ab (Aa [] [1,8] ?_);refine Ax (p:=d.kind=1) (by kernel_rfl) (fun c1=>?_) (fun c1=>?_)
 ·refine Ad [] [1,4] [(8,3)] (hk 2 O9 (R8 d.evr (by omega))<|hk0) v0 c0 ?_
  obtain⟨b1,hb1⟩:∃b,b=((Bh d.name)&&(decide ((d.args.length:Int)=0))):=⟨_,rfl⟩
  obtain⟨b2,hb2⟩:∃b,b=(b1&&(((decide (d.op=0))&&(decide (d.evr=[])))||(((decide (1≤d.op))&&(decide (d.op≤7)))&&(decide ((B6 d.evr)=0))))):=⟨_,rfl⟩
  have qh1:(((Bh d.name)=true→(Bh d.name)=true))∧(((Bh d.name)=true→(Bh d.name)=true))∧(((Bh d.name)=true→(Bh d.name)=true))∧(((Bh d.name)=true→(Bh d.name)=true))∧((b1=true→b1=true))∧((b1=true→b1=true))∧((b1=true→b1=true))∧(((b1&&(decide (d.op=0)))=true→(b1&&(decide (d.op=0)))=true))∧(((b1&&(decide (d.op=0)))=true→(b1&&(decide (d.op=0)))=true))∧((b1=true→(b1=true)∧((decide (d.op=0))=true→(b1&&(decide (d.op=0)))=true)))∧((b1=true→b1=true))∧(((b1&&(!((decide (d.op=0))&&(decide (d.evr=[])))))=true→(b1&&(!((decide (d.op=0))&&(decide (d.evr=[])))))=true))∧(((b1&&(!((decide (d.op=0))&&(decide (d.evr=[])))))=true→(b1&&(!((decide (d.op=0))&&(decide (d.evr=[])))))=true))∧(((b1&&(!((decide (d.op=0))&&(decide (d.evr=[])))))=true→(b1&&(!((decide (d.op=0))&&(decide (d.evr=[])))))=true))∧((((b1&&(!((decide (d.op=0))&&(decide (d.evr=[])))))&&(decide (1≤d.op)))=true→((b1&&(!((decide (d.op=0))&&(decide (d.evr=[])))))&&(decide (1≤d.op)))=true))∧((((b1&&(!((decide (d.op=0))&&(decide (d.evr=[])))))&&(decide (1≤d.op)))=true→((b1&&(!((decide (d.op=0))&&(decide (d.evr=[])))))&&(decide (1≤d.op)))=true))∧(((b1&&(!((decide (d.op=0))&&(decide (d.evr=[])))))=true→((b1&&(!((decide (d.op=0))&&(decide (d.evr=[])))))=true)∧((decide (1≤d.op))=true→((b1&&(!((decide (d.op=0))&&(decide (d.evr=[])))))&&(decide (1≤d.op)))=true)))∧(((b1&&(!((decide (d.op=0))&&(decide (d.evr=[])))))=true→(b1&&(!((decide (d.op=0))&&(decide (d.evr=[])))))=true))∧((((b1&&(!((decide (d.op=0))&&(decide (d.evr=[])))))&&((decide (1≤d.op))&&(decide (d.op≤7))))=true→((b1&&(!((decide (d.op=0))&&(decide (d.evr=[])))))&&((decide (1≤d.op))&&(decide (d.op≤7))))=true))∧(((b1&&(!((decide (d.op=0))&&(decide (d.evr=[])))))=true→((b1&&(!((decide (d.op=0))&&(decide (d.evr=[])))))=true)∧(((decide (1≤d.op))&&(decide (d.op≤7)))=true→((b1&&(!((decide (d.op=0))&&(decide (d.evr=[])))))&&((decide (1≤d.op))&&(decide (d.op≤7))))=true)))∧((b1=true→(b1=true)∧(((decide (d.op=0))&&(decide (d.evr=[])))=false→(b1&&(!((decide (d.op=0))&&(decide (d.evr=[])))))=true)))∧((b1=true→b1=true)):=by
   first|omega|(simp;omega)|(simp;done)|(intros;simp_all;omega)|(intros;simp_all;done)|(intros;simp_all;by_cases h:d.op=0<;>simp_all)
  refine Ad [19,20,21,22,25,26,27,28,29,30,31,32,33,34,35,36,37,38,39,40,41,42,43,44,45,46] [2] [] (hk 2 Ks (Nx d.name (by omega))<|hk0) (vk 9 23 (a:=.bool ((Bh d.name)&&(decide ((d.args.length:Int)=0)))) (b:=.bool b1) (Imp.of_eq (by rw[hb1]))<|vk 33 47 (a:=.bool (b1&&(((decide (d.op=0))&&(decide (d.evr=[])))||(((decide (1≤d.op))&&(decide (d.op≤7)))&&(decide ((B6 d.evr)=0)))))) (b:=.bool b2) (Imp.of_eq (by rw[hb2]))<|v0) (cc 5 (p:=((Bh d.name)=true→(Bh d.name)=true)) qh1.1<|cc 6 (p:=((Bh d.name)=true→(Bh d.name)=true)) qh1.2.1<|cc 7 (p:=((Bh d.name)=true→(Bh d.name)=true)) qh1.2.2.1<|cc 8 (p:=((Bh d.name)=true→(Bh d.name)=true)) qh1.2.2.2.1<|cc 11 (p:=(b1=true→b1=true)) qh1.2.2.2.2.1<|cc 12 (p:=(b1=true→b1=true)) qh1.2.2.2.2.2.1<|cc 13 (p:=(b1=true→b1=true)) qh1.2.2.2.2.2.2.1<|cc 15 (p:=((b1&&(decide (d.op=0)))=true→(b1&&(decide (d.op=0)))=true)) qh1.2.2.2.2.2.2.2.1<|cc 16 (p:=((b1&&(decide (d.op=0)))=true→(b1&&(decide (d.op=0)))=true)) qh1.2.2.2.2.2.2.2.2.1<|cc 17 (p:=(b1=true→(b1=true)∧((decide (d.op=0))=true→(b1&&(decide (d.op=0)))=true))) qh1.2.2.2.2.2.2.2.2.2.1<|cc 18 (p:=(b1=true→b1=true)) qh1.2.2.2.2.2.2.2.2.2.2.1<|cc 20 (p:=((b1&&(!((decide (d.op=0))&&(decide (d.evr=[])))))=true→(b1&&(!((decide (d.op=0))&&(decide (d.evr=[])))))=true)) qh1.2.2.2.2.2.2.2.2.2.2.2.1<|cc 21 (p:=((b1&&(!((decide (d.op=0))&&(decide (d.evr=[])))))=true→(b1&&(!((decide (d.op=0))&&(decide (d.evr=[])))))=true)) qh1.2.2.2.2.2.2.2.2.2.2.2.2.1<|cc 22 (p:=((b1&&(!((decide (d.op=0))&&(decide (d.evr=[])))))=true→(b1&&(!((decide (d.op=0))&&(decide (d.evr=[])))))=true)) qh1.2.2.2.2.2.2.2.2.2.2.2.2.2.1<|cc 24 (p:=(((b1&&(!((decide (d.op=0))&&(decide (d.evr=[])))))&&(decide (1≤d.op)))=true→((b1&&(!((decide (d.op=0))&&(decide (d.evr=[])))))&&(decide (1≤d.op)))=true)) qh1.2.2.2.2.2.2.2.2.2.2.2.2.2.2.1<|cc 25 (p:=(((b1&&(!((decide (d.op=0))&&(decide (d.evr=[])))))&&(decide (1≤d.op)))=true→((b1&&(!((decide (d.op=0))&&(decide (d.evr=[])))))&&(decide (1≤d.op)))=true)) qh1.2.2.2.2.2.2.2.2.2.2.2.2.2.2.2.1<|cc 26 (p:=((b1&&(!((decide (d.op=0))&&(decide (d.evr=[])))))=true→((b1&&(!((decide (d.op=0))&&(decide (d.evr=[])))))=true)∧((decide (1≤d.op))=true→((b1&&(!((decide (d.op=0))&&(decide (d.evr=[])))))&&(decide (1≤d.op)))=true))) qh1.2.2.2.2.2.2.2.2.2.2.2.2.2.2.2.2.1<|cc 27 (p:=((b1&&(!((decide (d.op=0))&&(decide (d.evr=[])))))=true→(b1&&(!((decide (d.op=0))&&(decide (d.evr=[])))))=true)) qh1.2.2.2.2.2.2.2.2.2.2.2.2.2.2.2.2.2.1<|cc 29 (p:=(((b1&&(!((decide (d.op=0))&&(decide (d.evr=[])))))&&((decide (1≤d.op))&&(decide (d.op≤7))))=true→((b1&&(!((decide (d.op=0))&&(decide (d.evr=[])))))&&((decide (1≤d.op))&&(decide (d.op≤7))))=true)) qh1.2.2.2.2.2.2.2.2.2.2.2.2.2.2.2.2.2.2.1<|cc 30 (p:=((b1&&(!((decide (d.op=0))&&(decide (d.evr=[])))))=true→((b1&&(!((decide (d.op=0))&&(decide (d.evr=[])))))=true)∧(((decide (1≤d.op))&&(decide (d.op≤7)))=true→((b1&&(!((decide (d.op=0))&&(decide (d.evr=[])))))&&((decide (1≤d.op))&&(decide (d.op≤7))))=true))) qh1.2.2.2.2.2.2.2.2.2.2.2.2.2.2.2.2.2.2.2.1<|cc 31 (p:=(b1=true→(b1=true)∧(((decide (d.op=0))&&(decide (d.evr=[])))=false→(b1&&(!((decide (d.op=0))&&(decide (d.evr=[])))))=true))) qh1.2.2.2.2.2.2.2.2.2.2.2.2.2.2.2.2.2.2.2.2.1<|cc 32 (p:=(b1=true→b1=true)) qh1.2.2.2.2.2.2.2.2.2.2.2.2.2.2.2.2.2.2.2.2.2<|c0) ?_
  refine Ae (RK wR [(.bool b2)] ?_);subst hb2 hb1;refine Same.of_eq ?_;simp only[Af];rw[R2 c1,Q21];congr 1;rw[Bool.eq_iff_iff];simp only[Bool.and_eq_true,Bool.or_eq_true,decide_eq_true_eq,and_assoc];rw[show((d.args.length:Int)=0)=(d.args.length=0) from propext (by omega)]
 ·refine Ag (Ab ?_);refine An (Bm 1 0 [] [1,48] [] hk0 v0 c0 ?_);refine Q64 (b:=1) (k:=4) (a:=3) (c:=0) (es:=[]) (m:=[]) (by kernel_rfl) (by kernel_rfl) (by kernel_rfl) (by kernel_rfl) (by kernel_rfl) (by kernel_rfl) (by kernel_rfl) Tryz.underlying203 Tryz.underlying3 ?_;refine Q64 (b:=1) (k:=6) (a:=2) (c:=1) (es:=[(.int .i64 4,.int .i64 3,0)]) (m:=[(4,3)]) (by kernel_rfl) (by kernel_rfl) (by kernel_rfl) (by kernel_rfl) (by kernel_rfl) (by kernel_rfl) (by kernel_rfl) Tryz.underlying203 Tryz.underlying3 ?_;refine Bm 3 3 [] [1,49,51] [] hk0 v0 c0 ?_;refine Y2j (b:=1) (c:=2) (es:=[(.int .i64 4,.int .i64 3,0),(.int .i64 6,.int .i64 2,1)]) (m:=[(4,3),(6,2)]) (s':=[(1,(.fp (.agg [(.int .i64 d.kind),(.str d.name),(.int .i64 d.op),(.str d.evr),(.row 5 d.args.length (depAt d.args))]))),(49,(.map 1)),(51,(.int .i64 d.kind)),(52,(.int .i64 (E0 d.kind)))]) (by kernel_rfl) (by kernel_rfl) (by kernel_rfl) (by kernel_rfl) (by kernel_rfl) Tryz.underlying203 Tryz.underlying3 (fun _=>by kernel_rfl) (X3o d.kind) (by kernel_rfl) ?_;refine Av 7 [] [1,5] [] hk0 v0 c0 ?_;refine Ab ?_
  obtain⟨b3,hb3⟩:∃b,b=(decide (d.kind < 2)):=⟨_,rfl⟩
  obtain⟨b4,hb4⟩:∃b,b=(b3||(decide (6 < d.kind))):=⟨_,rfl⟩
  obtain⟨b5,hb5⟩:∃b,b=(b4||(!decide (d.name=[]))):=⟨_,rfl⟩
  obtain⟨b6,hb6⟩:∃b,b=(b5||(!decide (d.op=0))):=⟨_,rfl⟩
  obtain⟨b7,hb7⟩:∃b,b=(b6||(!decide (d.evr=[]))):=⟨_,rfl⟩
  obtain⟨b8,hb8⟩:∃b,b=(b7||(decide ((d.args.length:Int) < 2))):=⟨_,rfl⟩
  refine Ad (CS:=[(5,((!b3)=true→(!b3)=true)),(6,((!b3)=true→(!b3)=true)),(7,(b3=false→(!b3)=true)),(10,((!b4)=true→(!b4)=true)),(11,((!b4)=true→(!b4)=true)),(12,(b4=false→(!b4)=true)),(15,((!b5)=true→(!b5)=true)),(16,((!b5)=true→(!b5)=true)),(17,(b5=false→(!b5)=true)),(20,((!b6)=true→(!b6)=true)),(21,((!b6)=true→(!b6)=true)),(22,(b6=false→(!b6)=true)),(25,((!b7)=true→(!b7)=true)),(26,((!b7)=true→(!b7)=true)),(27,((!b7)=true→(!b7)=true)),(28,(b7=false→(!b7)=true)),(31,((!b8)=true→(!b8)=true)),(32,((!b8)=true→(!b8)=true)),(34,(((!b8)&&(decide (0 < (E0 d.kind))))=true→((!b8)&&(decide (0 < (E0 d.kind))))=true)),(35,(((!b8)&&(decide (0 < (E0 d.kind))))=true→((!b8)&&(decide (0 < (E0 d.kind))))=true)),(37,(((!b8)&&(decide (0 < (E0 d.kind))))=true→((!b8)&&(decide (0 < (E0 d.kind))))=true∧((!b8)&&(decide (0 < (E0 d.kind))))=true)),(38,((!b8)=true→((!b8)=true)∧((decide (0 < (E0 d.kind)))=true→((!b8)&&(decide (0 < (E0 d.kind))))=true))),(39,(b8=false→(!b8)=true))]) [57,58,59,62,63,64,67,68,69,72,73,74,77,78,79,80,83,84,85,86,87,88,89,90,91] [1,92] [] hk0 (vk 4 56 (a:=.bool (decide (d.kind < 2))) (b:=.bool b3) (Imp.of_eq (by rw[hb3]))<|vk 9 61 (a:=.bool (b3||(decide (6 < d.kind)))) (b:=.bool b4) (Imp.of_eq (by rw[hb4]))<|vk 14 66 (a:=.bool (b4||(!decide (d.name=[])))) (b:=.bool b5) (Imp.of_eq (by rw[hb5]))<|vk 19 71 (a:=.bool (b5||(!decide (d.op=0)))) (b:=.bool b6) (Imp.of_eq (by rw[hb6]))<|vk 24 76 (a:=.bool (b6||(!decide (d.evr=[])))) (b:=.bool b7) (Imp.of_eq (by rw[hb7]))<|vk 30 82 (a:=.bool (b7||(decide ((d.args.length:Int) < 2)))) (b:=.bool b8) (Imp.of_eq (by rw[hb8]))<|v0) (by refine cc _ ?_<|cc _ ?_<|cc _ ?_<|cc _ ?_<|cc _ ?_<|cc _ ?_<|cc _ ?_<|cc _ ?_<|cc _ ?_<|cc _ ?_<|cc _ ?_<|cc _ ?_<|cc _ ?_<|cc _ ?_<|cc _ ?_<|cc _ ?_<|cc _ ?_<|cc _ ?_<|cc _ ?_<|cc _ ?_<|cc _ ?_<|cc _ ?_<|cc _ ?_ c0<;>(intros;simp_all;done)) ?_
  refine A5 (q:=b8||((decide (0 < (E0 d.kind)))&&(decide ((E0 d.kind) < (d.args.length:Int))))) (by kernel_rfl) (fun c2=>?_) (fun c2=>?_)
  ·subst hb8 hb7 hb6 hb5 hb4 hb3
   try simp only[Ai] at c2
   refine Aa [] [2] ?_;refine Ae (RK wR [(.bool false)] ?_);refine Same.of_eq ?_;simp only[Af];rw[Kn c1,Q23,decide_eq_true (by rcases c2 with (((((h|h)|h)|h)|h)|h)|h<;>first|(simp[h];done)|(have h':d.args.length < 2:=(by omega);simp[h']))];rfl
  ·subst hb8 hb7 hb6 hb5 hb4 hb3
   try simp only[Ai] at c2
   refine Ag (Ad [] [2] [] (hk 3 (al:=[(Aj 5 Ap d.args),(.fn 182 [] [(.fp (.agg [(.int .i64 d.kind),(.str d.name),(.int .i64 d.op),(.str d.evr),(.row 5 d.args.length (depAt d.args))]))])]) X7u ((X9b d.args (.fn 182 [] [.fp (Ap d)]) (Nf d.kind) (by omega) (fun i hi=>FunV.of (by exact X7t) (X5g (nth d.args i) d (ih i hi)))).of_args (ImpL.cons Imp.refl (ImpL.cons (Imp.clo (by kernel_rfl)) ImpL.nil)))<|hk0) (vk 3 94 (Gk d.args)<|v0) c0 ?_);refine Ae (RK wR [(.bool (!(d.args.any (Nf d.kind))))] ?_);refine Same.of_eq ?_;simp only[Af];rw[Kn c1,Q23,decide_eq_false (by rcases c2 with⟨⟨⟨⟨⟨⟨h1,h2⟩,h3⟩,h4⟩,h5⟩,h6⟩,h7⟩;simp[h3,h4,h5];omega),Q51];simp
theorem X5i (d:DepT):d.size≤4194304→FnV Tryz.prog 155 [Ap d] (.bool (B2 d)) :=
 Nl (C:=fun d=>d.size≤4194304→FnV Tryz.prog 155 [Ap d] (.bool (B2 d))) (fun d ih hs=>X5m d hs fun i hi=>ih i hi (by have:=Id hi;omega)) d
theorem X02 (d:DepT) (hs:d.size≤4194304) (ih:∀i,i < d.args.length→FnV Tryz.prog 107 [Ap (nth d.args i)] (.bool (B2 (nth d.args i)))) :
  FnV Tryz.prog 107 [(.agg [(.int .i64 d.kind),(.str d.name),(.int .i64 d.op),(.str d.evr),(.row 5 d.args.length (depAt d.args))])] (.bool (B2 d)):=by
 have hda:=Gs d;have hal:=Et d.args;refine A3 [.tmp 2] Tryz.func107 rfl Tryz.ntmps107 rfl rfl (fun B F hF=>?_);refine Ad [] [1] [(1,1)] hk0 v0 c0 ?_;refine Ab (Aa [] [1,12] ?_);refine Ax (p:=d.kind=1) (by kernel_rfl) (fun c1=>?_) (fun c1=>?_)
 ·refine Ad [] [1,3] [] (hk 2 Ls (Mm d.name (by omega))<|hk0) v0 c0 ?_;refine Ab ?_
  obtain⟨b1,hb1⟩:∃b,b=(!(Bh d.name)):=⟨_,rfl⟩
  obtain⟨b2,hb2⟩:∃b,b=(b1||(decide (d.op < 0))):=⟨_,rfl⟩
  obtain⟨b3,hb3⟩:∃b,b=(b2||(decide (7 < d.op))):=⟨_,rfl⟩
  refine Ad (CS:=[(4,((!b1)=true→(!b1)=true)),(5,((!b1)=true→(!b1)=true)),(6,(b1=false→(!b1)=true)),(9,((!b2)=true→(!b2)=true)),(10,((!b2)=true→(!b2)=true)),(11,(b2=false→(!b2)=true)),(14,((!b3)=true→(!b3)=true)),(15,((!b3)=true→(!b3)=true)),(16,((!b3)=true→(!b3)=true)),(17,(b3=false→(!b3)=true))]) [19,20,21,24,25,26,29,30,31,32] [1,33] [] hk0 (vk 3 18 (a:=.bool (!(Bh d.name))) (b:=.bool b1) (Imp.of_eq (by rw[hb1]))<|vk 8 23 (a:=.bool (b1||(decide (d.op < 0)))) (b:=.bool b2) (Imp.of_eq (by rw[hb2]))<|vk 13 28 (a:=.bool (b2||(decide (7 < d.op)))) (b:=.bool b3) (Imp.of_eq (by rw[hb3]))<|v0) (by refine cc _ ?_<|cc _ ?_<|cc _ ?_<|cc _ ?_<|cc _ ?_<|cc _ ?_<|cc _ ?_<|cc _ ?_<|cc _ ?_<|cc _ ?_ c0<;>simp) ?_;refine A5 (q:=b3||(decide (0 < (d.args.length:Int)))) (by kernel_rfl) (fun c2=>?_) (fun c2=>?_)
  ·subst hb3 hb2 hb1
   try simp only[Ai] at c2
   refine Aa [] [2] ?_;refine Ae (RK wR [(.bool false)] ?_);refine Same.of_eq ?_;simp only[Af];rw[R2 c1,Vh (by rcases c2 with ((h|h)|h)|h<;>first|omega|simp_all)]
  ·subst hb3 hb2 hb1
   try simp only[Ai] at c2
   refine Ag ?_;refine Ab (Aa [] [1,36] ?_);refine Ax (p:=d.op=0) (by kernel_rfl) (fun c3=>?_) (fun c3=>?_)
   ·refine Aa [] [2] ?_;refine Ae (RK wR [(.bool (decide (d.evr=[])))] ?_);refine Same.of_eq ?_;simp only[Af];rw[R2 c1,X5n ⟨c2.1.1.1,by omega,by omega,by omega⟩ c3]
   ·refine Ag (Ad [] [5] [(8,4)] (hk 2 O8 (Qy d.evr (by omega))<|hk0) v0 c0 ?_);refine Aa [] [2] ?_;refine Ae (RK wR [(.bool (decide ((B6 d.evr)=0)))] ?_);refine Same.of_eq ?_;simp only[Af];rw[R2 c1,X5o ⟨c2.1.1.1,by omega,by omega,by omega⟩ c3]
 ·refine Ag (Aa [] [1,6] ?_);refine Ab ?_
  obtain⟨b4,hb4⟩:∃b,b=(decide (d.kind < 2)):=⟨_,rfl⟩
  obtain⟨b5,hb5⟩:∃b,b=(b4||(decide (6 < d.kind))):=⟨_,rfl⟩
  obtain⟨b6,hb6⟩:∃b,b=(b5||(!decide (d.name=[]))):=⟨_,rfl⟩
  obtain⟨b7,hb7⟩:∃b,b=(b6||(!decide (d.op=0))):=⟨_,rfl⟩
  obtain⟨b8,hb8⟩:∃b,b=(b7||(!decide (d.evr=[]))):=⟨_,rfl⟩
  refine Ad (CS:=[(5,((!b4)=true→(!b4)=true)),(6,((!b4)=true→(!b4)=true)),(7,(b4=false→(!b4)=true)),(10,((!b5)=true→(!b5)=true)),(11,((!b5)=true→(!b5)=true)),(12,(b5=false→(!b5)=true)),(15,((!b6)=true→(!b6)=true)),(16,((!b6)=true→(!b6)=true)),(17,(b6=false→(!b6)=true)),(20,((!b7)=true→(!b7)=true)),(21,((!b7)=true→(!b7)=true)),(22,(b7=false→(!b7)=true)),(25,((!b8)=true→(!b8)=true)),(26,(b8=false→(!b8)=true))]) [55,56,57,60,61,62,65,66,67,70,71,72,75,76] [1,6,77] [] hk0 (vk 4 54 (a:=.bool (decide (d.kind < 2))) (b:=.bool b4) (Imp.of_eq (by rw[hb4]))<|vk 9 59 (a:=.bool (b4||(decide (6 < d.kind)))) (b:=.bool b5) (Imp.of_eq (by rw[hb5]))<|vk 14 64 (a:=.bool (b5||(!decide (d.name=[])))) (b:=.bool b6) (Imp.of_eq (by rw[hb6]))<|vk 19 69 (a:=.bool (b6||(!decide (d.op=0)))) (b:=.bool b7) (Imp.of_eq (by rw[hb7]))<|vk 24 74 (a:=.bool (b7||(!decide (d.evr=[])))) (b:=.bool b8) (Imp.of_eq (by rw[hb8]))<|v0) (by refine cc _ ?_<|cc _ ?_<|cc _ ?_<|cc _ ?_<|cc _ ?_<|cc _ ?_<|cc _ ?_<|cc _ ?_<|cc _ ?_<|cc _ ?_<|cc _ ?_<|cc _ ?_<|cc _ ?_<|cc _ ?_ c0<;>simp) ?_;refine A5 (q:=b8||(decide ((d.args.length:Int) < 2))) (by kernel_rfl) (fun c4=>?_) (fun c4=>?_)
  ·subst hb8 hb7 hb6 hb5 hb4
   try simp only[Ai] at c4
   refine Aa [] [2] ?_;refine Ae (RK wR [(.bool false)] ?_);refine Same.of_eq ?_;simp only[Af];rw[Kn c1,X5y (by rcases c4 with ((((h|h)|h)|h)|h)|h<;>first|(simp[h];done)|(have h':d.args.length < 2:=(by omega);simp[h']))];rfl
  ·subst hb8 hb7 hb6 hb5 hb4
   try simp only[Ai] at c4
   refine Ag (Ab ?_)
   obtain⟨b9,hb9⟩:∃b,b=(decide (d.kind=4)):=⟨_,rfl⟩
   obtain⟨b10,hb10⟩:∃b,b=(b9&&(decide (3 < (d.args.length:Int)))):=⟨_,rfl⟩
   refine Ad (CS:=[(5,(b9=true→b9=true)),(6,(b9=true→b9=true)),(9,((!b10)=true→(!b10)=true)),(10,((!b10)=true→(!b10)=true)),(11,((!b10)=true→(!b10)=true)),(13,(((!b10)&&(decide (d.kind=6)))=true→((!b10)&&(decide (d.kind=6)))=true)),(14,((!b10)=true→((!b10)=true)∧((decide (d.kind=6))=true→((!b10)&&(decide (d.kind=6)))=true))),(15,(b10=false→(!b10)=true))]) [82,83,86,87,88,89,90,91,92] [1,6,93] [] hk0 (vk 4 81 (a:=.bool (decide (d.kind=4))) (b:=.bool b9) (Imp.of_eq (by rw[hb9]))<|vk 8 85 (a:=.bool (b9&&(decide (3 < (d.args.length:Int))))) (b:=.bool b10) (Imp.of_eq (by rw[hb10]))<|v0) (by refine cc _ ?_<|cc _ ?_<|cc _ ?_<|cc _ ?_<|cc _ ?_<|cc _ ?_<|cc _ ?_<|cc _ ?_ c0<;>(intros;simp_all;done)) ?_;refine A5 (q:=b10||((decide (d.kind=6))&&(decide (2 < (d.args.length:Int))))) (by kernel_rfl) (fun c5=>?_) (fun c5=>?_)
   ·subst hb10 hb9
    try simp only[Ai] at c5
    refine Aa [] [2] ?_;refine Ae (RK wR [(.bool false)] ?_);refine Same.of_eq ?_;simp only[Af];rw[Kn c1,X5x (by omega)];rfl
   ·subst hb10 hb9
    try simp only[Ai] at c5
    have hfb:Gg d.kind d.name d.op d.evr d.args.length=false:=X5w (by rcases c4 with⟨⟨⟨⟨⟨h1,h2⟩,h3⟩,h4⟩,h5⟩,h6⟩;simp[h3,h4,h5];omega) (by omega);refine Ag ?_;refine Ab (Aa [] [1,6,7] ?_);refine Az (Bx (fun g y=>∃(i:Nat),i≤d.args.length∧argsForm d.kind d.args=argsForm d.kind (d.args.drop i)∧y=⟨[(1,(.fp (.agg [(.int .i64 d.kind),(.str d.name),(.int .i64 d.op),(.str d.evr),(.row 5 d.args.length (depAt d.args))]))),(6,(.int .i64 ((d.args.length:Int)))),(7,(.int .i64 ((i:Int))))],[],1⟩∧g=d.args.length-i) [1,6,7] 1 _ (by omega) ⟨0,(by omega),(by rfl),(by kernel_rfl),rfl⟩ ?_);rintro g1 y1 ⟨i,f1_1,f1_2,rfl,rfl⟩;refine Ab (Aa [] [1,6,7,96] ?_);refine Ax (p:=(i:Int) < (d.args.length:Int)) (by kernel_rfl) (fun c6=>?_) (fun c6=>?_)
    ·refine Ag (Ab ?_);refine Az (Ad [] [1,6,7,8] [] hk0 (vk 3 100 (Gk d.args)<|v0) (cc 3 (p:=(0≤(i:Int)∧i < d.args.length)) (by omega)<|c0) ?_);refine Ab ?_
     obtain⟨b11,hb11⟩:∃b,b=(decide (5≤d.kind)):=⟨_,rfl⟩
     obtain⟨b12,hb12⟩:∃b,b=(b11&&(!decide (((nth d.args i).kind)=1))):=⟨_,rfl⟩
     obtain⟨b13,hb13⟩:∃b,b=(b12&&(!decide (((nth d.args i).kind)=5))):=⟨_,rfl⟩
     refine Ad (CS:=[(5,(b11=true→b11=true)),(6,(b11=true→b11=true)),(9,(b12=true→b12=true)),(10,(b12=true→b12=true)),(13,(b13=true→b13=true)),(14,(b13=true→b13=true))]) [109,110,113,114,117,118] [1,6,7,119] [] hk0 (vk 4 108 (a:=.bool (decide (5≤d.kind))) (b:=.bool b11) (Imp.of_eq (by rw[hb11]))<|vk 8 112 (a:=.bool (b11&&(!decide (((nth d.args i).kind)=1)))) (b:=.bool b12) (Imp.of_eq (by rw[hb12]))<|vk 12 116 (a:=.bool (b12&&(!decide (((nth d.args i).kind)=5)))) (b:=.bool b13) (Imp.of_eq (by rw[hb13]))<|v0) (by refine cc _ ?_<|cc _ ?_<|cc _ ?_<|cc _ ?_<|cc _ ?_<|cc _ ?_ c0<;>simp) ?_;refine A5 (q:=b13&&(!decide (((nth d.args i).kind)=6))) (by kernel_rfl) (fun c7=>?_) (fun c7=>?_)
     ·subst hb13 hb12 hb11
      try simp only[Ai] at c7
      refine Aa [] [2] ?_;refine Ae (RK wR [(.bool false)] ?_);refine Same.of_eq ?_;simp only[Af];rw[Kn c1,hfb,f1_2,Wk (by omega),X4k (by omega)];rfl
     ·subst hb13 hb12 hb11
      try simp only[Ai] at c7
      refine Ag (Ad [] [1,6,7,9] [] (hk 5 Q4w (ih i (by omega))<|hk0) (vk 3 121 (Gk d.args)<|v0) (cc 3 (p:=(0≤(i:Int)∧i < d.args.length)) (by omega)<|c0) ?_);refine Aa [] [1,6,7,127] ?_;refine A5 (q:=!(B2 (nth d.args i))) (by kernel_rfl) (fun c8=>?_) (fun c8=>?_)
      ·try simp only[Ai] at c8
       refine Aa [] [2] ?_;refine Ae (RK wR [(.bool false)] ?_);refine Same.of_eq ?_;simp only[Af];rw[Kn c1,hfb,f1_2,Wk (by omega),Q1v (by omega),c8];rfl
      ·try simp only[Ai] at c8
       refine Ag ?_;refine An (Av 0 [] [1,6,7] [] hk0 v0 (cc 1 (p:=(-9223372036854775808≤(i:Int)+1∧(i:Int)+1≤9223372036854775807)) (by omega)<|c0) ?_);refine⟨by kernel_rfl,_,?_,i+1,?_,?_,(by kernel_rfl),rfl⟩
       ·omega
       ·omega
       ·rw[f1_2,Wk (by omega),Q1v (by omega),c8];rfl
    ·refine Bp (Aa [] [2] ?_);refine Ae (RK wR [(.bool true)] ?_);refine Same.of_eq ?_;simp only[Af];rw[Kn c1,hfb,f1_2,List.drop_of_length_le (by omega)];rfl
theorem X01 (d:DepT):d.size≤4194304→FnV Tryz.prog 107 [Ap d] (.bool (B2 d)) :=
 Nl (C:=fun d=>d.size≤4194304→FnV Tryz.prog 107 [Ap d] (.bool (B2 d))) (fun d ih hs=>X02 d hs fun i hi=>ih i hi (by have:=Id hi;omega)) d
theorem X19 (d:DepT) (hs:d.size≤4194304) (ih:∀i,i < d.args.length→FnV Tryz.prog 108 [Ap (nth d.args i)] (.int .i64 (D9 (nth d.args i):Int))) :
  FnV Tryz.prog 108 [(.agg [(.int .i64 d.kind),(.str d.name),(.int .i64 d.op),(.str d.evr),(.row 5 d.args.length (depAt d.args))])] (.int .i64 ((D9 d:Int))):=by
 have hda:=Gs d;have hal:=Et d.args;refine A3 [.tmp 2] Tryz.func108 rfl Tryz.ntmps108 rfl rfl (fun B F hF=>?_);refine Ad [] [1] [(1,1)] hk0 v0 c0 ?_;refine Ab (Aa [] [1,7] ?_);refine Ax (p:=d.kind=1) (by kernel_rfl) (fun c1=>?_) (fun c1=>?_)
 ·refine Aa [] [2] ?_;refine Ae (RK wR [(.int .i64 1)] ?_);refine Same.of_eq ?_;simp only[Af];rw[X2b c1];rfl
 ·refine Ag (Aa [] [1,3] ?_);refine Ab (Aa [] [1,3,4] ?_);refine Az (Bx (fun g y=>∃(i:Nat),i≤d.args.length∧y=⟨[(1,(.fp (.agg [(.int .i64 d.kind),(.str d.name),(.int .i64 d.op),(.str d.evr),(.row 5 d.args.length (depAt d.args))]))),(3,(.int .i64 ((argsParts (d.args.take i):Int)))),(4,(.int .i64 ((i:Int))))],[],1⟩∧g=d.args.length-i) [1,3,4] 1 _ (by omega) ⟨0,(by omega),(by kernel_rfl),rfl⟩ ?_);rintro g1 y1 ⟨i,f1_1,rfl,rfl⟩;have hb1:=argsParts_le (d.args.take i);have hb2:=fun h=>Wj (l:=d.args) (i:=i) h;have hb3:=Zz (nth d.args i);refine Ab (Aa [] [1,3,4,12] ?_);refine Ax (p:=(i:Int) < (d.args.length:Int)) (by kernel_rfl) (fun c2=>?_) (fun c2=>?_)
  ·refine Ag ?_;refine Ab (Az ?_);refine An (Av (CS:=[(4,(0≤(i:Int)∧i < d.args.length)),(7,(-9223372036854775808≤(argsParts (d.args.take i):Int)+(D9 (nth d.args i):Int)∧(argsParts (d.args.take i):Int)+(D9 (nth d.args i):Int)≤9223372036854775807))]) 0 [] [1,3,4] [] (hk 6 Q4v (ih i (by omega))<|hk0) (vk 4 17 (Gk d.args)<|v0) (by refine cc _ ?_<|cc _ ?_ c0<;>omega) ?_);refine An (Av 0 [] [1,3,4] [] hk0 v0 (cc 1 (p:=(-9223372036854775808≤(i:Int)+1∧(i:Int)+1≤9223372036854775807)) (by omega)<|c0) ?_);refine⟨by kernel_rfl,_,?_,i+1,?_,(Eq.trans (b:=(⟨[(1,(.fp (.agg [(.int .i64 d.kind),(.str d.name),(.int .i64 d.op),(.str d.evr),(.row 5 d.args.length (depAt d.args))]))),(3,(.int .i64 ((argsParts (d.args.take i):Int)+(D9 (nth d.args i):Int)))),(4,(.int .i64 ((i:Int)+1)))],[],1⟩:St)) (by kernel_rfl) (by rw[Y0s (by omega)];rfl)),rfl⟩
   ·omega
   ·omega
  ·refine Bp (Aa [] [2] ?_);refine Ae (RK wR [(.int .i64 ((argsParts (d.args.take i):Int)))] ?_);refine Same.of_eq ?_;simp only[Af];rw[X2c c1,List.take_of_length_le (by omega)]
theorem X2a (d:DepT):d.size≤4194304→FnV Tryz.prog 108 [Ap d] (.int .i64 (D9 d:Int)) :=
 Nl (C:=fun d=>d.size≤4194304→FnV Tryz.prog 108 [Ap d] (.int .i64 (D9 d:Int))) (fun d ih hs=>X19 d hs fun i hi=>ih i hi (by have:=Id hi;omega)) d
def Gc (d:DepT):Nat:=if d.kind=1 then 1 else 0
theorem X9l (l:List UInt8) (m:Nat) (hm:m≤9000000) :
  F6 Tryz.prog 157 [(.str l),(.ptr 0 0)] [(0,(.row [(.int .i64 (((m:Nat):Int)))] 3))] 1 (.tup []) [(0,(.row [(.int .i64 (((m+1:Nat):Int)))] 3))]:=by
 refine L8 [] Tryz.func157 rfl Tryz.ntmps157 rfl rfl (by kernel_rfl) (by kernel_rfl) (by kernel_rfl) (fun B F hF=>?_);refine An (Av 0 [] [] [] hk0 v0 (cc 1 (p:=(-9223372036854775808≤((m:Nat):Int)+1∧((m:Nat):Int)+1≤9223372036854775807)) (by omega)<|c0) ?_);refine Ej (.inr rfl) (al:=[]) (by kernel_rfl) ?_ ((by kernel_rfl:C6 1 _=some [(0,(.row [(.int .i64 (((m:Nat):Int)+1))] 3))]).trans ?_)
 ·rfl
 ·rfl
theorem Y1a (d:DepT) (m:Nat) (hs:m+d.size≤8388608) (ih:∀i m,i < d.args.length→m+(nth d.args i).size≤8388608→F6 Tryz.prog 156 [Ap (nth d.args i),.fn 157 [] [.ptr 0 0]] [(0,.row [.int .i64 ((m:Nat):Int)] 3)] 1 (.tup []) [(0,.row [.int .i64 ((m+Ez (nth d.args i):Nat):Int)] 3)]) :
  F6 Tryz.prog 156 [(.agg [(.int .i64 d.kind),(.str d.name),(.int .i64 d.op),(.str d.evr),(.row 5 d.args.length (depAt d.args))]),(.fn 157 [] [(.ptr 0 0)])] [(0,(.row [(.int .i64 (((m:Nat):Int)))] 3))] 1 (.tup []) [(0,(.row [(.int .i64 (((m+Ez d:Nat):Int)))] 3))]:=by
 have hda:=Gs d;have hal:=Et d.args
 have ho:Gc d≤1:=by unfold Gc;split<;>omega
 refine L8 [] Tryz.func156 rfl Tryz.ntmps156 rfl rfl (by kernel_rfl) (by kernel_rfl) (by kernel_rfl) (fun B F hF=>?_);refine Aa [] [1,2] ?_;refine Sz 2 (y:=⟨[(1,(.fn 157 [] [(.ptr 0 0)])),(2,(.fp (.agg [(.int .i64 d.kind),(.str d.name),(.int .i64 d.op),(.str d.evr),(.row 5 d.args.length (depAt d.args))])))],[(0,(.row [(.int .i64 (((m:Nat):Int)))] 3))],2⟩) (by kernel_rfl) ?_;refine C8 (fun y=>y=⟨[(1,(.fn 157 [] [(.ptr 0 0)])),(2,(.fp (.agg [(.int .i64 d.kind),(.str d.name),(.int .i64 d.op),(.str d.evr),(.row 5 d.args.length (depAt d.args))])))],[(0,(.row [(.int .i64 (((m+Gc d:Nat):Int)))] 3))],2⟩) [1,2] 2 (by omega) ?_ ?_
 ·refine Aa [] [1,2,8] ?_;refine Ax (p:=d.kind=1) (by kernel_rfl) (fun c1=>?_) (fun c1=>?_)
  ·refine An (Bm 3 0 [] [1,2,9,11] [] hk0 v0 c0 ?_);refine S7 [0] (f:=157) (cap:=[(.ptr 0 0)]) (al:=[(.str d.name)]) (al':=[(.str d.name),(.ptr 0 0)]) (r:=(.tup [])) (r':=(.tup [])) (s':=[(1,(.fn 157 [] [(.ptr 0 0)])),(2,(.fp (.agg [(.int .i64 d.kind),(.str d.name),(.int .i64 d.op),(.str d.evr),(.row 5 d.args.length (depAt d.args))]))),(9,(.fn 157 [] [(.ptr 0 0)])),(11,(.str d.name)),(12,(.tup []))]) (H:=[(0,(.row [(.int .i64 (((m:Nat):Int)))] 3))]) (H':=[(0,(.row [(.int .i64 (((m+1:Nat):Int)))] 3))]) (h2:=[(0,(.row [(.int .i64 (((m+1:Nat):Int)))] 3))]) (by kernel_rfl) (by kernel_rfl) (by exact X74) (by kernel_rfl) (by kernel_rfl) (by kernel_rfl) (by kernel_rfl) (by kernel_rfl) (X9l d.name m (by omega)) (by kernel_rfl) (by kernel_rfl) (by kernel_rfl) ?_;refine Br ?_;refine⟨by kernel_rfl,(Eq.trans (b:=(⟨[(1,(.fn 157 [] [(.ptr 0 0)])),(2,(.fp (.agg [(.int .i64 d.kind),(.str d.name),(.int .i64 d.op),(.str d.evr),(.row 5 d.args.length (depAt d.args))])))],[(0,(.row [(.int .i64 (((m+1:Nat):Int)))] 3))],2⟩:St)) (by kernel_rfl) (by unfold Gc;rw[if_pos c1]))⟩
  ·refine Ag ?_;refine⟨by kernel_rfl,(Eq.trans (b:=(⟨[(1,(.fn 157 [] [(.ptr 0 0)])),(2,(.fp (.agg [(.int .i64 d.kind),(.str d.name),(.int .i64 d.op),(.str d.evr),(.row 5 d.args.length (depAt d.args))])))],[(0,(.row [(.int .i64 (((m:Nat):Int)))] 3))],2⟩:St)) (by kernel_rfl) (by unfold Gc;rw[if_neg c1];rfl))⟩
 ·rintro y1 rfl;refine Aa [] [1,14,15,16] ?_;refine Az (Wy 14 (Aj 5 Ap d.args) (by kernel_rfl) (Gk d.args) ?_);refine Bx (fun g y=>∃(i:Nat),i≤d.args.length∧y=⟨[(1,(.fn 157 [] [(.ptr 0 0)])),(14,(Aj 5 Ap d.args)),(15,(.int .i64 ((d.args.length:Int)))),(16,(.int .i64 ((i:Int))))],[(0,(.row [(.int .i64 (((m+Gc d+argsNames (d.args.take i):Nat):Int)))] 3))],2⟩∧g=d.args.length-i) [1,14,15,16] 2 _ (by omega) ⟨0,(by omega),(Eq.trans (b:=(⟨[(1,(.fn 157 [] [(.ptr 0 0)])),(14,(Aj 5 Ap d.args)),(15,(.int .i64 ((d.args.length:Int)))),(16,(.int .i64 0))],[(0,(.row [(.int .i64 (((m+Gc d:Nat):Int)))] 3))],2⟩:St)) (by kernel_rfl) (by simp only[List.take_zero,argsNames,Nat.add_zero];rfl)),rfl⟩ ?_;rintro g1 y1 ⟨i,f1_1,rfl,rfl⟩;have hb1:=argsNames_le (d.args.take i);have hb2:=fun h=>Wj (l:=d.args) (i:=i) h;refine Aa [] [1,14,15,16,17] ?_;refine Ab ?_;refine Ax (p:=(i:Int) < (d.args.length:Int)) (by kernel_rfl) (fun c2=>?_) (fun c2=>?_)
  ·refine Ag (Ab ?_);refine Az (Ad [] [1,5,14,15,16] [] hk0 v0 (cc 0 (p:=(0≤(i:Int)∧i < d.args.length)) (by omega)<|c0) ?_);refine An (Bm 2 0 [] [1,14,15,16,20,21] [(0,5)] hk0 v0 c0 ?_)
   refine Ei [0] (al:=[(.agg [(.int .i64 ((nth d.args i).kind)),(.str ((nth d.args i).name)),(.int .i64 ((nth d.args i).op)),(.str ((nth d.args i).evr)),(.row 5 (nth d.args i).args.length (depAt (nth d.args i).args))]),(.fn 157 [] [(.ptr 0 0)])]) (al':=[(.agg [(.int .i64 ((nth d.args i).kind)),(.str ((nth d.args i).name)),(.int .i64 ((nth d.args i).op)),(.str ((nth d.args i).evr)),(.row 5 (nth d.args i).args.length (depAt (nth d.args i).args))]),(.fn 157 [] [(.ptr 0 0)])]) (r:=(.tup [])) (r':=(.tup [])) (s':=[(1,(.fn 157 [] [(.ptr 0 0)])),(14,(Aj 5 Ap d.args)),(15,(.int .i64 ((d.args.length:Int)))),(16,(.int .i64 ((i:Int)))),(20,(.agg [(.int .i64 ((nth d.args i).kind)),(.str ((nth d.args i).name)),(.int .i64 ((nth d.args i).op)),(.str ((nth d.args i).evr)),(.row 5 (nth d.args i).args.length (depAt (nth d.args i).args))])),(21,(.fn 157 [] [(.ptr 0 0)])),(22,(.tup []))]) (H:=[(0,(.row [(.int .i64 (((m+Gc d+argsNames (d.args.take i):Nat):Int)))] 3))]) (H':=[(0,(.row [(.int .i64 (((m+Gc d+argsNames (d.args.take i)+Ez (nth d.args i):Nat):Int)))] 3))]) (h2:=[(0,(.row [(.int .i64 (((m+Gc d+argsNames (d.args.take i)+Ez (nth d.args i):Nat):Int)))] 3))]) (by kernel_rfl) (by exact Q4m) (by kernel_rfl) (by kernel_rfl) (by kernel_rfl) (by kernel_rfl) (by kernel_rfl) (ih i (m+Gc d+argsNames (d.args.take i)) (by omega) (by have:=hb2 (by omega);omega)) (by kernel_rfl) (by kernel_rfl) (by kernel_rfl) ?_
   refine Br ?_;refine An (Av 0 [] [1,14,15,16] [] hk0 v0 (cc 0 (p:=(-9223372036854775808≤(i:Int)+1∧(i:Int)+1≤9223372036854775807)) (by omega)<|c0) ?_);refine⟨by kernel_rfl,_,?_,i+1,?_,(Eq.trans (b:=(⟨[(1,(.fn 157 [] [(.ptr 0 0)])),(14,(Aj 5 Ap d.args)),(15,(.int .i64 ((d.args.length:Int)))),(16,(.int .i64 ((i:Int)+1)))],[(0,(.row [(.int .i64 (((m+Gc d+argsNames (d.args.take i)+Ez (nth d.args i):Nat):Int)))] 3))],2⟩:St)) (by kernel_rfl) (by rw[Y0t (by omega)];simp only[Nat.add_assoc];rfl)),rfl⟩
   all_goals omega
  ·refine Bp ?_;refine Ej (.inr rfl) (al:=[]) (by kernel_rfl) ?_ ((by kernel_rfl:C6 1 _=some [(0,(.row [(.int .i64 (((m+Gc d+argsNames (d.args.take i):Nat):Int)))] 3))]).trans ?_)
   ·rfl
   ·rw[X3d,List.take_of_length_le (by omega)];simp only[Gc,Nat.add_assoc]
theorem Y09 (d:DepT):∀m,m+d.size≤8388608→F6 Tryz.prog 156 [Ap d,.fn 157 [] [.ptr 0 0]] [(0,.row [.int .i64 ((m:Nat):Int)] 3)] 1 (.tup []) [(0,.row [.int .i64 ((m+Ez d:Nat):Int)] 3)] :=
 Nl (C:=fun d=>∀m,m+d.size≤8388608→F6 Tryz.prog 156 [Ap d,.fn 157 [] [.ptr 0 0]] [(0,.row [.int .i64 ((m:Nat):Int)] 3)] 1 (.tup []) [(0,.row [.int .i64 ((m+Ez d:Nat):Int)] 3)]) (fun d ih m hs=>Y1a d m hs fun i m hi h=>ih i hi m h) d
theorem Tb (d:DepT) (hs:d.size≤4194304) :
  FnV Tryz.prog 121 [(.agg [(.int .i64 d.kind),(.str d.name),(.int .i64 d.op),(.str d.evr),(.row 5 d.args.length (depAt d.args))])] (.int .i64 (Bw d)):=by
 refine A3 [.tmp 2] Tryz.func121 rfl Tryz.ntmps121 rfl rfl (fun B F hF=>?_);refine Ad [] [1] [(1,1)] hk0 v0 c0 ?_;refine Ab (Ad [] [1,6] [] (hk 1 Q4n (X5i d hs)<|hk0) v0 c0 ?_);refine A5 (q:=!(B2 d)) (by kernel_rfl) (fun c1=>?_) (fun c1=>?_)
 ·try simp only[Ai] at c1
  refine Aa [] [2] ?_;refine Ae (RK wR [(.int .i64 50)] ?_);refine Same.of_eq ?_;simp only[Af];rw[Bw,c1];rfl
 ·try simp only[Ai] at c1
  refine Ag (Aa [] [1,3] ?_);refine Ab ?_;refine An (Bm 2 0 [] [3,7,8] [] hk0 v0 c0 ?_);refine Ei [1] (al:=[(.agg [(.int .i64 d.kind),(.str d.name),(.int .i64 d.op),(.str d.evr),(.row 5 d.args.length (depAt d.args))]),(.fn 157 [] [(.ptr 1 0)])]) (al':=[(.agg [(.int .i64 d.kind),(.str d.name),(.int .i64 d.op),(.str d.evr),(.row 5 d.args.length (depAt d.args))]),(.fn 157 [] [(.ptr 0 0)])]) (r:=(.tup [])) (r':=(.tup [])) (s':=[(3,(.ptr 1 0)),(7,(.agg [(.int .i64 d.kind),(.str d.name),(.int .i64 d.op),(.str d.evr),(.row 5 d.args.length (depAt d.args))])),(8,(.fn 157 [] [(.ptr 1 0)])),(9,(.tup []))]) (H:=[(0,(.row [(.int .i64 0)] 3))]) (H':=[(0,(.row [(.int .i64 (((0+Ez d:Nat):Int)))] 3))]) (h2:=[(1,(.row [(.int .i64 (((0+Ez d:Nat):Int)))] 3))]) (by kernel_rfl) (by exact Q4m) (by kernel_rfl) (by kernel_rfl) (by kernel_rfl) (by kernel_rfl) (by kernel_rfl) (Y09 d 0 (by omega)) (by kernel_rfl) (by kernel_rfl) (by kernel_rfl) ?_;refine Br ?_;refine Ab (Aa [] [11] ?_);refine Ax (p:=16 < ((0+Ez d:Nat):Int)) (by kernel_rfl) (fun c2=>?_) (fun c2=>?_)
  ·refine Aa [] [2] ?_;refine Ae (RK wR [(.int .i64 51)] ?_);refine Same.of_eq ?_;simp only[Af];rw[Bw,c1,if_pos rfl,if_pos (by have:=Uu d c1;omega)]
  ·refine Ag (Aa [] [2] ?_);refine Ae (RK wR [(.int .i64 0)] ?_);refine Same.of_eq ?_;simp only[Af];rw[Bw,c1,if_pos rfl,if_neg (by have:=Uu d c1;omega)]
theorem Ub (d:DepT) (hs:d.size≤4194304) :
  FnV Tryz.prog 61 [(.agg [(.int .i64 d.kind),(.str d.name),(.int .i64 d.op),(.str d.evr),(.row 5 d.args.length (depAt d.args))])] (.int .i64 (Bw d)):=by
 refine A3 [.tmp 2] Tryz.func61 rfl Tryz.ntmps61 rfl rfl (fun B F hF=>?_);refine Ad [] [1] [(1,1)] hk0 v0 c0 ?_;refine Ad [] [1,3] [] (hk 1 Q4w (X01 d hs)<|hk0) v0 c0 ?_;refine Ab (Aa [] [1,7] ?_);refine A5 (q:=!(B2 d)) (by kernel_rfl) (fun c1=>?_) (fun c1=>?_)
 ·try simp only[Ai] at c1
  refine Aa [] [2] ?_;refine Ae (RK wR [(.int .i64 50)] ?_);refine Same.of_eq ?_;simp only[Af];rw[Bw,c1];rfl
 ·try simp only[Ai] at c1
  refine Ag ?_;refine Ab (Ad [] [10] [] (hk 1 Q4v (X2a d hs)<|hk0) v0 c0 ?_);refine Ax (p:=16 < (D9 d:Int)) (by kernel_rfl) (fun c2=>?_) (fun c2=>?_)
  ·refine Aa [] [2] ?_;refine Ae (RK wR [(.int .i64 51)] ?_);refine Same.of_eq ?_;simp only[Af];rw[Bw,c1,if_pos rfl,if_pos (by omega)]
  ·refine Ag (Aa [] [2] ?_);refine Ae (RK wR [(.int .i64 0)] ?_);refine Same.of_eq ?_;simp only[Af];rw[Bw,c1,if_pos rfl,if_neg (by omega)]
end Sv
end
section
open Go Go.RowKit
namespace Sv
attribute [local irreducible] SW SO Bk
set_option maxHeartbeats 400000
set_option maxRecDepth 100000
theorem X8n:Ak Tryz.prog 113:=Ao Tryz.func113 (by kernel_rfl) rfl
theorem X6p:Ak Tryz.prog 69:=Ao Tryz.func69 (by kernel_rfl) rfl
theorem Kr:Ak Tryz.prog 68:=Ao Tryz.func68 (by kernel_rfl) rfl
theorem Q3v:Ak Tryz.prog 67:=Ao Tryz.func67 (by kernel_rfl) rfl
theorem Q35:Ak Tryz.prog 29:=Ao Tryz.func29 (by kernel_rfl) rfl
theorem X6l:Ak Tryz.prog 80:=Ao Tryz.func80 (by kernel_rfl) rfl
theorem Q30:Ak Tryz.prog 37:=Ao Tryz.func37 (by kernel_rfl) rfl
theorem X9u (l:List (List UInt8)) (hl:l.length≤4611686018427) :
  FnV Tryz.prog 69 [(B3 l)] (B3 l):=by
 refine A3 [.tmp 2] Tryz.func69 rfl Tryz.ntmps69 rfl rfl (fun B F hF=>?_);refine Aa [] [0] ?_;refine Ab (Ab ?_);refine An (Bm 1 0 [] [0,3] [] hk0 v0 c0 ?_);refine Q63 (G:=Y3 (B3 l)) (sz:=1) (m:=l.length) (e:=9) (by kernel_rfl) (by kernel_rfl) (by kernel_rfl) (by kernel_rfl) (fun nq1=>⟨[(0,(B3 l)),(3,(B3 l)),(4,(.bool nq1))],by kernel_rfl,fun hnq1=>?_⟩);refine Br ?_;refine A5 (q:=nq1) (by kernel_rfl) (fun c1=>?_) (fun c1=>?_)
 ·try simp only[Ai] at c1
  refine Aa [] [2] ?_;refine Ae (RK wR [.nils] ?_);simp only[Af];exact(Same.of_eq rfl).trans (Imp.same (by have:=hnq1 (by simp_all);have:l=[]:=List.length_eq_zero_iff.1 this;subst this;exact Imp.nil))
 ·try simp only[Ai] at c1
  refine Ag (Ad [] [2] [] hk0 v0 (cc 2 (p:=((([]:List AV).length+l.length)*16≤140737488355328)) (by(simp;omega))<|c0) ?_);refine Ae (RK wR [(.row 1 (([]:List AV)++((List.range l.length).map (fun kx=>((.str (nth l kx)):AV)))).length (fun ix=>(([]:List AV)++((List.range l.length).map (fun kx=>((.str (nth l kx)):AV)))).getD ix Bn))] ?_);simp only[Af];exact Same.grown (f:=AV.str) (l:=l) (by simp[Zc])
theorem Q0o (l:List DepT) (hs:argsSize l≤4194304) (ih:∀i,i < l.length→FnV Tryz.prog 68 [Dk (nth l i).args] (.row 5 (nth l i).args.length (depAt (nth l i).args))) :
  FnV Tryz.prog 68 [(Aj 5 Ap l)] (.row 5 l.length (depAt l)):=by
 have hal:=Et l;refine A3 [.tmp 2] Tryz.func68 rfl Tryz.ntmps68 rfl rfl (fun B F hF=>?_);refine Aa [] [0] ?_;refine Ab ?_;refine An (Bm 1 0 [] [5] [] hk0 v0 c0 ?_);refine S6 [.tmp 2] (al:=[(Aj 5 Ap l)]) (s0:=[(5,(Aj 5 Ap l))]) (by kernel_rfl) (by exact X8n) (by kernel_rfl) Tryz.func113 rfl Tryz.ntmps113 rfl (by kernel_rfl) (by kernel_rfl) (fun F1 hF1 hle1=>?_);refine Aa [] [0] ?_;refine Ab (Ab ?_);refine An (Bm 1 0 [] [0,3] [] hk0 v0 c0 ?_);refine Q63 (G:=Y3 (Aj 5 Ap l)) (sz:=5) (m:=l.length) (e:=67) (by kernel_rfl) (by kernel_rfl) (by kernel_rfl) (by kernel_rfl) (fun nq1_1=>⟨[(0,(Aj 5 Ap l)),(3,(Aj 5 Ap l)),(4,(.bool nq1_1))],by kernel_rfl,fun hnq1_1=>?_⟩);refine Br ?_;refine A5 (q:=nq1_1) (by kernel_rfl) (fun c1=>?_) (fun c1=>?_)
 ·try simp only[Ai] at c1
  refine Aa [] [2] ?_;refine Ae (Ow (.inl rfl) (al:=[.nils]) (s':=[(5,(Aj 5 Ap l)),(6,.nils)]) (by kernel_rfl) (by kernel_rfl) ?_);refine Av 2 [] [0] [] hk0 v0 c0 ?_;refine Ab (Aa [] [0,7,8,9] ?_);refine Az (S2 1 ?_);refine F4 (Aa [] [0,7,8,9,10] ?_);refine Ab (Du (by kernel_rfl) ?_);refine Bp (Aa [] [2] ?_);refine Ae (RK wR [.nils] ?_);have h0:l=[]:=List.length_eq_zero_iff.1 (hnq1_1 c1);subst h0;exact(Same.nil (f:=Ap)).trans (I3 []).same
 ·try simp only[Ai] at c1
  refine Ag (Ad [] [2] [] hk0 v0 (cc 2 (p:=((([]:List AV).length+l.length)*72≤140737488355328)) (by(simp;omega))<|c0) ?_);refine Ae (Ow (.inl rfl) (al:=[(.own 1)]) (s':=[(5,(Aj 5 Ap l)),(6,(.own 1))]) (by kernel_rfl) (by kernel_rfl) ?_);refine Av 2 [] [0] [] hk0 v0 c0 ?_;refine Ab (Aa [] [0,7,8,9] ?_);refine Az ?_
  refine Bx (fun g y=>∃(i:Nat),i≤l.length∧y=⟨[(0,(.own 1)),(7,(.own 1)),(8,(.int .i64 (((l.map Ap).length:Int)))),(9,(.int .i64 ((i:Int))))],[(1,(.grow (l.map Ap) 67 5))],2⟩∧g=l.length-i) [0,7,8,9] 2 _ (by omega) ⟨0,(by omega),(Eq.trans (b:=(⟨[(0,(.own 1)),(7,(.own 1)),(8,(.int .i64 (((([]:List AV)++((List.range l.length).map (fun kx=>((.agg [(.int .i64 ((nth l kx).kind)),(.str ((nth l kx).name)),(.int .i64 ((nth l kx).op)),(.str ((nth l kx).evr)),(.row 5 (nth l kx).args.length (depAt (nth l kx).args))]):AV)))).length:Int)))),(9,(.int .i64 0))],[(1,(.grow (([]:List AV)++((List.range l.length).map (fun kx=>((.agg [(.int .i64 ((nth l kx).kind)),(.str ((nth l kx).name)),(.int .i64 ((nth l kx).op)),(.str ((nth l kx).evr)),(.row 5 (nth l kx).args.length (depAt (nth l kx).args))]):AV)))) 67 5))],2⟩:St)) (by kernel_rfl) (by rw[show(([]:List AV)++((List.range l.length).map (fun kx=>((.agg [(.int .i64 ((nth l kx).kind)),(.str ((nth l kx).name)),(.int .i64 ((nth l kx).op)),(.str ((nth l kx).evr)),(.row 5 (nth l kx).args.length (depAt (nth l kx).args))]):AV))))=l.map Ap from X2g Ap l];rfl)),rfl⟩ ?_;rintro g2 y2 ⟨i,f2_1,rfl,rfl⟩;have hlm:(l.map Ap).length=l.length:=List.length_map _
  refine Aa [] [0,7,8,9,10] ?_;refine Ab ?_;refine Ax (p:=(i:Int) < ((l.map Ap).length:Int)) (by kernel_rfl) (fun c2=>?_) (fun c2=>?_)
  ·refine Ag (Ab ?_);refine Az (Ab ?_);refine An (Bm 1 0 [] [0,7,8,9,11] [] hk0 v0 c0 ?_);refine Jc (b:=1) (i:=i) (es:=l.map Ap) (e:=67) (sz:=5) (k:=.i64) (s':=[(0,(.own 1)),(7,(.own 1)),(8,(.int .i64 (((l.map Ap).length:Int)))),(9,(.int .i64 ((i:Int)))),(11,(.int .i64 ((i:Int)))),(12,(.op 1 (i*5)))]) (by kernel_rfl) (by kernel_rfl) (by kernel_rfl) (by kernel_rfl) (by kernel_rfl) (by kernel_rfl) (by first|(rw[List.length_map];omega)|simp_all) (by kernel_rfl) ?_
   refine S5 (b:=1) (e:=67) (sz:=5) (es:=l.map Ap) (o:=i*5) (i:=i) (j:=0) (a:=(.agg [(.int .i64 ((nth l i).kind)),(.str ((nth l i).name)),(.int .i64 ((nth l i).op)),(.str ((nth l i).evr)),(.row 5 (nth l i).args.length (depAt (nth l i).args))])) (r:=(.agg [(.int .i64 ((nth l i).kind)),(.str ((nth l i).name)),(.int .i64 ((nth l i).op)),(.str ((nth l i).evr)),(.row 5 (nth l i).args.length (depAt (nth l i).args))])) (s':=[(0,(.own 1)),(7,(.own 1)),(8,(.int .i64 (((l.map Ap).length:Int)))),(9,(.int .i64 ((i:Int)))),(11,(.int .i64 ((i:Int)))),(12,(.op 1 (i*5))),(13,(.agg [(.int .i64 ((nth l i).kind)),(.str ((nth l i).name)),(.int .i64 ((nth l i).op)),(.str ((nth l i).evr)),(.row 5 (nth l i).args.length (depAt (nth l i).args))]))]) (by kernel_rfl) (by kernel_rfl) rfl (by kernel_rfl) (Rz (l:=l) Ap (by omega)) (by kernel_rfl) (by kernel_rfl) ?_;refine Av 3 [] [0,3,4,7,8,9] [] hk0 v0 c0 ?_;refine An (Bm 5 0 [] [0,7,8,9,14,15,18] [(0,4)] (hk 4 Kr (ih i (by omega))<|hk0) (vk 4 17 (Gk (nth l i).args)<|v0) c0 ?_)
   refine Jc (b:=1) (i:=i) (es:=l.map Ap) (e:=67) (sz:=5) (k:=.i64) (s':=[(0,(.own 1)),(7,(.own 1)),(8,(.int .i64 (((l.map Ap).length:Int)))),(9,(.int .i64 ((i:Int)))),(14,(.own 1)),(15,(.int .i64 ((i:Int)))),(18,(.row 5 ((nth l i).args).length (depAt ((nth l i).args)))),(19,(.op 1 (i*5)))]) (by kernel_rfl) (by kernel_rfl) (by kernel_rfl) (by kernel_rfl) (by kernel_rfl) (by kernel_rfl) (by first|(rw[List.length_map];omega)|simp_all) (by kernel_rfl) ?_;refine W0 (b:=1) (o:=i*5) (off:=4) (s':=[(0,(.own 1)),(7,(.own 1)),(8,(.int .i64 (((l.map Ap).length:Int)))),(9,(.int .i64 ((i:Int)))),(14,(.own 1)),(15,(.int .i64 ((i:Int)))),(18,(.row 5 ((nth l i).args).length (depAt ((nth l i).args)))),(19,(.op 1 (i*5))),(20,(.op 1 (i*5+4)))]) (by kernel_rfl) (by kernel_rfl) (by kernel_rfl) (by kernel_rfl) ?_
   refine Y2i (b:=1) (e:=67) (sz:=5) (es:=l.map Ap) (o:=i*5+4) (i:=i) (j:=4) (a:=(.agg [(.int .i64 ((nth l i).kind)),(.str ((nth l i).name)),(.int .i64 ((nth l i).op)),(.str ((nth l i).evr)),(.row 5 (nth l i).args.length (depAt (nth l i).args))])) (r:=(.agg [(.int .i64 ((nth l i).kind)),(.str ((nth l i).name)),(.int .i64 ((nth l i).op)),(.str ((nth l i).evr)),(.row 5 ((nth l i).args).length (depAt ((nth l i).args)))])) (v:=(.row 5 ((nth l i).args).length (depAt ((nth l i).args)))) (s':=[(0,(.own 1)),(7,(.own 1)),(8,(.int .i64 (((l.map Ap).length:Int)))),(9,(.int .i64 ((i:Int)))),(14,(.own 1)),(15,(.int .i64 ((i:Int)))),(18,(.row 5 ((nth l i).args).length (depAt ((nth l i).args)))),(19,(.op 1 (i*5))),(20,(.op 1 (i*5+4)))]) (by kernel_rfl) (by kernel_rfl) rfl (by kernel_rfl) (by kernel_rfl) (Rz (l:=l) Ap (by omega)) (by kernel_rfl) (by kernel_rfl) ?_;refine Br ?_;refine An (Av 0 [] [0,7,8,9] [] hk0 v0 (cc 0 (p:=(-9223372036854775808≤(i:Int)+1∧(i:Int)+1≤9223372036854775807)) (by omega)<|c0) ?_)
   refine⟨by kernel_rfl,_,?_,i+1,?_,(Eq.trans (b:=(⟨[(0,(.own 1)),(7,(.own 1)),(8,(.int .i64 (((l.map Ap).length:Int)))),(9,(.int .i64 ((i:Int)+1)))],[(1,(.grow ((l.map Ap).set i (.agg [(.int .i64 ((nth l i).kind)),(.str ((nth l i).name)),(.int .i64 ((nth l i).op)),(.str ((nth l i).evr)),(.row 5 ((nth l i).args).length (depAt ((nth l i).args)))])) 67 5))],2⟩:St)) (by kernel_rfl) (congrArg (fun es=>St.mk _ [(1,AO.grow es _ _)] _) (Q9x Ap l i))),rfl⟩
   all_goals omega
  ·refine Bp (Aa [] [2] ?_);refine Ae (RK wR [(.row 5 (l.map Ap).length (fun ix=>(l.map Ap).getD ix Bn))] ?_);simp only[Af];exact(Same.grown (f:=Ap) (l:=l) rfl).trans (I3 l).same
theorem X2h (l:List DepT):argsSize l≤4194304→FnV Tryz.prog 68 [Dk l] (.row 5 l.length (depAt l)):=by
 have key:∀n (l:List DepT),argsSize l≤n→argsSize l≤4194304→FnV Tryz.prog 68 [Dk l] (.row 5 l.length (depAt l)):=by
  intro n
  induction n with
  |zero=>exact fun l h hs=>Q0o l hs fun i hi=>by have:=Q5y hi;omega
  |succ n ih=>exact fun l h hs=>Q0o l hs fun i hi=>by have:=Q5y hi;exact ih _ (by omega) (by omega)
 exact key _ l (Nat.le_refl _)
theorem Lh (l:List DepT) (hs:argsSize l≤4194304):FnV Tryz.prog 68 [Dk l] (Dk l):=(X2h l hs).to (Gk l).same
theorem Q5a (p:PkgT) (hs:p.depSize≤4194304) (hf:p.files.length≤4611686018427) :
  FnV Tryz.prog 29 [(Ar p)] (Ar p):=by
 unfold PkgT.depSize at hs;refine A3 [.cell 2 42] Tryz.func29 rfl Tryz.ntmps29 rfl rfl (fun B F hF=>?_);refine Aa [] [1,2] ?_;refine Ab ?_;refine Ab (An ?_);refine S6 [.tmp 2] (al:=[(.ptr 0 0)]) (s0:=[(1,(.ptr 0 0)),(2,(.ptr 1 0))]) (by kernel_rfl) (by exact Q3v) (by kernel_rfl) Tryz.func67 rfl Tryz.ntmps67 rfl (by kernel_rfl) (by kernel_rfl) (fun F1 hF1 hle1=>?_);refine Aa [] [0] ?_;refine Co [] [2] [] hk0 v0 c0 ?_;refine Ae (Ow (.inl rfl) (al:=[(.sl 2 0 7 7 false)]) (s':=[(1,(.ptr 0 0)),(2,(.ptr 1 0)),(5,(.sl 2 0 7 7 false))]) (by kernel_rfl) (by kernel_rfl) ?_);refine Av 1 [] [1,2,5,6,7] [] hk0 v0 c0 ?_;refine Az (S2 8 ?_);refine F4 (Aa [] [1,2,5,6,7,8] ?_);refine Ab (Hx (by kernel_rfl) ?_);refine Ag (Ab ?_);refine Az (Aa [] [1,2,4,5,6,7] ?_);refine An (Av 0 [] [1,2,5,6,7] [] (hk 4 Kr (Lh p.provides (by omega))<|hk0) v0 c0 ?_);refine An (Av 0 [] [1,2,5,6,7] [] hk0 v0 (cc 0 (p:=(-9223372036854775808≤(1:Int)∧(1:Int)≤9223372036854775807)) (by omega)<|c0) ?_);refine F4 (Aa [] [1,2,5,6,7,8] ?_);refine Ab (Hx (by kernel_rfl) ?_);refine Ag (Ab ?_);refine Az (Aa [] [1,2,4,5,6,7] ?_)
 refine An (Av 0 [] [1,2,5,6,7] [] (hk 4 Kr (Lh p.requires (by omega))<|hk0) v0 c0 ?_);refine An (Av 0 [] [1,2,5,6,7] [] hk0 v0 (cc 0 (p:=(-9223372036854775808≤(2:Int)∧(2:Int)≤9223372036854775807)) (by omega)<|c0) ?_);refine F4 (Aa [] [1,2,5,6,7,8] ?_);refine Ab (Hx (by kernel_rfl) ?_);refine Ag (Ab ?_);refine Az (Aa [] [1,2,4,5,6,7] ?_);refine An (Av 0 [] [1,2,5,6,7] [] (hk 4 Kr (Lh p.pre (by omega))<|hk0) v0 c0 ?_);refine An (Av 0 [] [1,2,5,6,7] [] hk0 v0 (cc 0 (p:=(-9223372036854775808≤(3:Int)∧(3:Int)≤9223372036854775807)) (by omega)<|c0) ?_);refine F4 (Aa [] [1,2,5,6,7,8] ?_);refine Ab (Hx (by kernel_rfl) ?_);refine Ag (Ab ?_);refine Az (Aa [] [1,2,4,5,6,7] ?_);refine An (Av 0 [] [1,2,5,6,7] [] (hk 4 Kr (Lh p.conflicts (by omega))<|hk0) v0 c0 ?_);refine An (Av 0 [] [1,2,5,6,7] [] hk0 v0 (cc 0 (p:=(-9223372036854775808≤(4:Int)∧(4:Int)≤9223372036854775807)) (by omega)<|c0) ?_);refine F4 (Aa [] [1,2,5,6,7,8] ?_);refine Ab (Hx (by kernel_rfl) ?_);refine Ag (Ab ?_);refine Az (Aa [] [1,2,4,5,6,7] ?_);refine An ?_
 refine Av 0 [] [1,2,5,6,7] [] (hk 4 Kr (Lh p.obsoletes (by omega))<|hk0) v0 c0 ?_;refine An (Av 0 [] [1,2,5,6,7] [] hk0 v0 (cc 0 (p:=(-9223372036854775808≤(5:Int)∧(5:Int)≤9223372036854775807)) (by omega)<|c0) ?_);refine F4 (Aa [] [1,2,5,6,7,8] ?_);refine Ab (Hx (by kernel_rfl) ?_);refine Ag (Ab ?_);refine Az (Aa [] [1,2,4,5,6,7] ?_);refine An (Av 0 [] [1,2,5,6,7] [] (hk 4 Kr (Lh p.recommends (by omega))<|hk0) v0 c0 ?_);refine An (Av 0 [] [1,2,5,6,7] [] hk0 v0 (cc 0 (p:=(-9223372036854775808≤(6:Int)∧(6:Int)≤9223372036854775807)) (by omega)<|c0) ?_);refine F4 (Aa [] [1,2,5,6,7,8] ?_);refine Ab (Hx (by kernel_rfl) ?_);refine Ag (Ab ?_);refine Az (Aa [] [1,2,4,5,6,7] ?_);refine An (Av 0 [] [1,2,5,6,7] [] (hk 4 Kr (Lh p.supplements (by omega))<|hk0) v0 c0 ?_);refine An (Av 0 [] [1,2,5,6,7] [] hk0 v0 (cc 0 (p:=(-9223372036854775808≤(7:Int)∧(7:Int)≤9223372036854775807)) (by omega)<|c0) ?_);refine F4 (Aa [] [1,2,5,6,7,8] ?_);refine Ab (Du (by kernel_rfl) ?_);refine Bp (Ad [] [1,2] [] (hk 2 X6p (X9u p.files hf)<|hk0) v0 c0 ?_);refine Aa [] [2] ?_;refine Ae ?_
 refine RK wR [(Ar p)] ?_;exact Same.of_eq rfl
end Sv
end
section
open Go Go.RowKit
namespace Sv
theorem Q2e {l:List UInt8} {p:Nat→Bool} (hp:∀r,128≤r→p r=true):∀(fuel pos:Nat),l.length≤pos+fuel→decide (Lib.idxFuncFrom p true ⟨l.toArray⟩ fuel pos < 0)=(l.drop pos).all (fun b => !p b.toNat)
 |0,pos,h=>by
  rw[List.drop_of_length_le (by omega)];rfl
 |fuel+1,pos,h=>by
  have hsz:(⟨l.toArray⟩:ByteArray).size=l.length:=G8 l;by_cases hpos:pos < l.length
  ·have hdrop:l.drop pos=Ac l pos::l.drop (pos+1):=by
    rw[List.drop_eq_getElem_cons hpos,I7 hpos]
   rw[hdrop,List.all_cons];simp only[Lib.idxFuncFrom,hsz,hpos,if_true];by_cases ha:(Ac l pos).toNat < 128
   ·rw[X9h hpos ha];simp only
    cases hc:p (Ac l pos).toNat with
    |true=>simp
    |false =>
     have:=Q2e (l:=l) hp fuel (pos+1) (by omega);simpa using this
   ·have hh:=X9g hpos (by omega);have h1:=hp _ hh.1;have h2:=hp (Ac l pos).toNat (by omega);rw[h1,h2];simp
  ·rw[List.drop_of_length_le (by omega)]
   have:¬pos < (⟨l.toArray⟩:ByteArray).size:=by rw[hsz];exact hpos
   simp[Lib.idxFuncFrom,this]
theorem Q2d {l:List UInt8} {p:Nat→Bool} (hp:∀r,128≤r→p r=true):decide (Lib.idxFunc p true ⟨l.toArray⟩ < 0)=l.all (fun b => !p b.toNat):=by
 have:=Q2e (l:=l) hp l.length 0 (by omega);rw[List.drop_zero] at this;rw[←this];unfold Lib.idxFunc;rw[show(⟨l.toArray⟩:ByteArray).size=l.length from G8 l]
theorem Q7l (s:List UInt8) (g:Nat) (cap:List AV) (p:Nat→Bool) (he:Ak Tryz.prog g) (hc:frzl cap=true) (h:∀x:Nat,x≤1114111→FnV Tryz.prog g (.int .i32 x::cap) (.bool (p x))) :
  FnV Tryz.prog 84 [.str s,.fn g [] cap] (.int .i64 (Lib.idxFunc p true ⟨s.toArray⟩)):=by
 intro F w vs hF hv;obtain⟨v,r1,rfl,h1,hv⟩:=hv.cons_inv;obtain⟨v2,rfl,h2⟩:=hv.single_inv;simp only[VR] at h1 h2;subst h1;obtain⟨vf,vc,q1,q2,rfl⟩:=h2;rw[q1.nil_inv];refine(Tryz.strings_IndexFunc_grows g vc.toArray (fun args w=>he args w) p ⟨s.toArray⟩ w ?_).mono ?_
 ·intro W x hx hb;have hF':Fro F W:=fun b o e=>(hb.block b (Dh (hF b o e))).trans (hF b o e)
  have key:Calls Tryz.prog g (Value.int .i32 x::vc).toArray W (fun e w'=>e = .returned (.bool (p x))∧Below W.heap.size W w'):=by
   refine(h x hx F W (.int .i32 x::vc) hF' (.cons (by simp only[VR]) q2)).mono ?_;rintro e w' ⟨v,he,hb',F',_,_,_,hr⟩;simp only[VR] at hr;subst hr;exact⟨he,hb'⟩
  have e:(#[Proofs.encR x]++vc.toArray)=(Value.int .i32 x::vc).toArray:=by apply Array.ext';simp[Proofs.encR]
  rw[e];exact key
 ·rintro e w' ⟨he,hb⟩;exact⟨_,he,hb,F,fun _ _ e=>e,fun b o e=>(hb.block b (Dh (hF b o e))).trans (hF b o e),fun _ _ e => .inl e,by simp only[VR]⟩
theorem L6 (s:List UInt8) (c:UInt8) (hl:s.length≤9223372036854775807):FnV Tryz.prog 90 [.str s,.str [c]] (.bool (A2 s c)):=by
 intro F w vs hF hv;obtain⟨v,r1,rfl,h1,hv⟩:=hv.cons_inv;obtain⟨v2,rfl,h2⟩:=hv.single_inv;simp only[VR] at h1 h2;subst h1 h2;refine(Y3p s c w hl).mono ?_;rintro e w' ⟨v,he,rfl,rfl⟩;exact⟨_,he,Below.refl _ _,F,fun _ _ e=>e,hF,fun _ _ e => .inl e,by simp only[VR]⟩
theorem X3l {l:List UInt8} (h:Bh l=true):0 < l.length:=by
 cases l with
 |nil=>exact absurd h (by decide)
 |cons a r=>simp
theorem Y0w {α:Type} {l:List α} (p:α→Bool):(l.any fun x => !p x) = !l.all p:=by
 induction l with
 |nil=>rfl
 |cons a r ih=>simp only[List.any_cons,List.all_cons,ih,Bool.not_and]
end Sv
end
section
open Go Go.RowKit
namespace Sv
attribute [local irreducible] SW SO Bk
set_option maxHeartbeats 1000000
set_option maxRecDepth 100000
theorem Xt:∀s:List UInt8,Lib.trimLeftB s 32=Bv s
 |[]=>rfl
 |c::r=>by
  have ih:=Xt r;unfold Lib.trimLeftB at ih ⊢;unfold Bv;by_cases h:c=32
  ·simp[h,ih]
  ·simp[h]
theorem Y2a (s:List UInt8):FnV Tryz.prog 153 [.str s,.str [32]] (.str (Bv s)):=by
 rw[←Xt];exact Ww s 32 (by decide)
theorem Oi (txt wd:List UInt8) (hl:txt.length≤8388608) :
  F6 Tryz.prog 118 [(.ptr 0 0)] [(0,(.row [(.str txt),(.str wd)] 158))] 1 (.tup []) [(0,(.row [(.str ((Ah txt).2)),(.str ((Ah txt).1))] 158))]:=by
 have hsl:=Qk txt;refine L8 [] Tryz.func118 rfl Tryz.ntmps118 rfl rfl (by kernel_rfl) (by kernel_rfl) (by kernel_rfl) (fun B F hF=>?_);refine S1 0 rfl (fun g y=>∃(m:Nat),m=Kj (Bv txt)∧m≤(Bv txt).length∧y=⟨[(0,(.ptr 0 0)),(2,(.int .i64 ((m:Int))))],[(0,(.row [(.str ((Bv txt))),(.str wd)] 158))],1⟩∧g=0) [0,2] 1 (by omega) (fun hJ0=>?_) ?_
 ·refine Ab ?_;refine An (Dd [] [0,2,3] ?_);refine Ab ?_;refine An (Av 0 [] [0,2,3] [] (hk 5 Sg (Y2a txt)<|hk0) v0 c0 ?_);refine Ab ?_
  obtain⟨b3,hb3⟩:∃b,b=(A2 (Bv txt) 40):=⟨_,rfl⟩
  refine Ad (CS:=[(7,((!b3)=true→(!b3)=true)),(8,((!b3)=true→(!b3)=true)),(9,((!b3)=true→(!b3)=true)),(10,(!b3)=true→(!b3)=true),(11,(b3=false→(!b3)=true))]) [18,19,20,21] [0,2,3,23] [] (hk 4 Kq (L6 (Bv txt) 40 (by omega))<|hkg 10 (!b3) Kq (fun cg=>L6 (Bv txt) 41 (by omega))<|hk0) (vk 6 17 (a:=.bool (A2 (Bv txt) 40)) (b:=.bool b3) (Imp.of_eq (by rw[hb3]))<|v0) (by refine cc _ ?_<|cc _ ?_<|cc _ ?_<|cc _ ?_<|cc _ ?_ c0<;>simp) ?_;refine A5 (q:=b3||(A2 (Bv txt) 41)) (by kernel_rfl) (fun c1=>?_) (fun c1=>?_)
  ·subst hb3
   try simp only[Ai] at c1
   refine Aa [] [0,2] ?_;refine K1 ⟨rfl,_,(by kernel_rfl:gcS _ _ _=some ⟨[(0,(.ptr 0 0)),(2,(.int .i64 1))],[(0,(.row [(.str ((Bv txt))),(.str wd)] 158))],1⟩),_,1,?_,?_,(by kernel_rfl),rfl⟩
   ·exact(Q03 (by simpa using c1)).1.symm
   ·exact(Q03 (by simpa using c1)).2
  ·subst hb3
   try simp only[Ai] at c1
   refine Ag (Ab ?_);refine Az (Bx (fun g y=>∃(j o:Nat),j≤(Bv txt).length∧o≤j∧Cn (Bv txt) 0=j+Cn ((Bv txt).drop j) o∧y=⟨[(0,(.ptr 0 0)),(2,(.int .i64 ((j:Int)))),(3,(.int .i64 ((o:Int))))],[(0,(.row [(.str ((Bv txt))),(.str wd)] 158))],1⟩∧g=(Bv txt).length-j) [0,2,3] 1 _ (by omega) ⟨0,0,(by omega),(by omega),(by simp),(by kernel_rfl),rfl⟩ ?_);rintro g1 y1 ⟨j,o,f1_1,f1_2,f1_3,rfl,rfl⟩;refine Ab ?_
   obtain⟨b4,hb4⟩:∃b,b=(decide ((j:Int) < ((Bv txt).length:Int))):=⟨_,rfl⟩
   refine Ad (CS:=[(9,(b4=true→b4=true)),(10,(b4=true→b4=true)),(11,(b4=true→b4=true)),(13,(b4=true→(b4=true∧b4=true)∧(0≤(j:Int)∧j < (Bv txt).length))),(14,(b4=true→b4=true)),(15,(b4=true→b4=true))]) [32,33,34,35,36,37,38] [0,2,3,39] [] hk0 (vk 8 31 (a:=.bool (decide ((j:Int) < ((Bv txt).length:Int)))) (b:=.bool b4) (Imp.of_eq (by rw[hb4]))<|v0) (by refine cc _ ?_<|cc _ ?_<|cc _ ?_<|cc _ ?_<|cc _ ?_<|cc _ ?_ c0<;>(intros;simp_all;done)) ?_;refine A5 (q:=b4&&(!decide (((Ac (Bv txt) j).toNat:Int)=32))) (by kernel_rfl) (fun c2=>?_) (fun c2=>?_)
   ·subst hb4
    try simp only[Ai] at c2
    refine Ag (Ab ?_);refine Az (Ad [] [0,2,3,47] [] hk0 v0 (cc 5 (p:=(0≤(j:Int)∧j < (Bv txt).length)) (by omega)<|c0) ?_);refine Az (Aa [] [0,2,3,47,48] ?_);refine Ax (p:=((Ac (Bv txt) j).toNat:Int)=40) (by kernel_rfl) (fun c3=>?_) (fun c3=>?_)
    ·refine An (Av 0 [] [0,2,3] [] hk0 v0 (cc 1 (p:=(-9223372036854775808≤(o:Int)+1∧(o:Int)+1≤9223372036854775807)) (by omega)<|c0) ?_);refine An (Av 0 [] [0,2,3] [] hk0 v0 (cc 1 (p:=(-9223372036854775808≤(j:Int)+1∧(j:Int)+1≤9223372036854775807)) (by omega)<|c0) ?_);refine⟨by kernel_rfl,_,?_,(j+1),(o+1),?_,?_,?_,(by kernel_rfl),rfl⟩
     ·omega
     ·omega
     ·omega
     ·rw[f1_3,Yr ⟨by omega,c2.2⟩ c3];omega
    ·refine Aa [] [0,2,3,52] ?_;refine Ax (p:=((Ac (Bv txt) j).toNat:Int)=41) (by kernel_rfl) (fun c4=>?_) (fun c4=>?_)
     ·refine Ab (Aa [] [0,2,3,55] ?_);refine Ax (p:=(o:Int)=0) (by kernel_rfl) (fun c5=>?_) (fun c5=>?_)
      ·refine K1 ⟨rfl,_,(by kernel_rfl:gcS _ _ _=some ⟨[(0,(.ptr 0 0)),(2,(.int .i64 ((j:Int))))],[(0,(.row [(.str ((Bv txt))),(.str wd)] 158))],1⟩),_,j,?_,?_,(by kernel_rfl),rfl⟩
       ·rw[Q02 (by simpa using c1),f1_3,Yq ⟨by omega,c2.2⟩ ⟨c4,by omega⟩];omega
       ·omega
      ·refine Ag ?_;refine An (Av 0 [] [0,2,3] [] hk0 v0 (cc 1 (p:=(-9223372036854775808≤(o:Int)-1∧(o:Int)-1≤9223372036854775807)) (by omega)<|c0) ?_);refine An (Av 0 [] [0,2,3] [] hk0 v0 (cc 1 (p:=(-9223372036854775808≤(j:Int)+1∧(j:Int)+1≤9223372036854775807)) (by omega)<|c0) ?_);refine⟨by kernel_rfl,_,?_,(j+1),(o-1),?_,?_,?_,(Eq.trans (b:=(⟨[(0,(.ptr 0 0)),(2,(.int .i64 ((j:Int)+1))),(3,(.int .i64 ((o:Int)-1)))],[(0,(.row [(.str ((Bv txt))),(.str wd)] 158))],1⟩:St)) (by kernel_rfl) (by rw[show(o:Int)-1=((o-1:Nat):Int) from by omega];rfl)),rfl⟩
       ·omega
       ·omega
       ·omega
       ·rw[f1_3,Yu ⟨by omega,c2.2⟩ c4 (by omega)];omega
     ·refine Ag ?_;refine An (Av 0 [] [0,2,3] [] hk0 v0 (cc 1 (p:=(-9223372036854775808≤(j:Int)+1∧(j:Int)+1≤9223372036854775807)) (by omega)<|c0) ?_);refine⟨by kernel_rfl,_,?_,(j+1),o,?_,?_,?_,(by kernel_rfl),rfl⟩
      ·omega
      ·omega
      ·omega
      ·rw[f1_3,Yt ⟨by omega,c2.2⟩ c3 c4];omega
   ·subst hb4
    try simp only[Ai] at c2
    refine Bp ?_;refine Ab (S3 ?_);refine Pv (y:=⟨[(0,(.ptr 0 0)),(2,(.int .i64 ((j:Int))))],[(0,(.row [(.str ((Bv txt))),(.str wd)] 158))],1⟩) [0,2] 1 (by omega) (by kernel_rfl) (hJ0 _ _ ⟨j,(by rw[Q02 (by simpa using c1),f1_3,Ys (by omega)];rfl),(by omega),(by kernel_rfl),rfl⟩)
 ·rintro g y ⟨m,fl0_1,fl0_2,rfl,rfl⟩;refine G9 (CS:=[(7,(0≤(0:Int)∧(0:Int)≤(m:Int)∧(m:Int)≤((Bv txt).length:Int))),(13,(0≤(m:Int)∧(m:Int)≤((Bv txt).length:Int)∧((Bv txt).length:Int)≤((Bv txt).length:Int)))]) [] [] [] hk0 v0 (by refine cc _ ?_<|cc _ ?_ c0<;>omega) ?_;refine Ej (.inr rfl) (al:=[]) (by kernel_rfl) ?_ ((by kernel_rfl:C6 1 _=some [(0,(.row [(.str (((Bv txt).take ((Bv txt).length)).drop m)),(.str (((Bv txt).take m).drop 0))] 158))]).trans ?_)
  ·rfl
  ·rw[Q07,←fl0_1,List.take_length,List.drop_zero]
theorem Qe (txt wd:List UInt8) (hl:txt.length≤8388608) :
  F6 Tryz.prog 154 [(.ptr 0 0)] [(0,(.row [(.str txt),(.str wd)] 158))] 1 (.str wd) [(0,(.row [(.str ((Ah txt).2)),(.str ((Ah txt).1))] 158))]:=by
 refine L8 [.tmp 2] Tryz.func154 rfl Tryz.ntmps154 rfl rfl (by kernel_rfl) (by kernel_rfl) (by kernel_rfl) (fun B F hF=>?_);refine Aa [] [0] ?_;refine Aa [] [0,3] ?_;refine Ab ?_;refine An (Bm 1 0 [] [3,8] [] hk0 v0 c0 ?_);refine Ei [0] (al:=[(.ptr 0 0)]) (al':=[(.ptr 0 0)]) (r:=(.tup [])) (r':=(.tup [])) (s':=[(3,(.str wd)),(8,(.ptr 0 0)),(9,(.tup []))]) (H:=[(0,(.row [(.str txt),(.str wd)] 158))]) (H':=[(0,(.row [(.str ((Ah txt).2)),(.str ((Ah txt).1))] 158))]) (h2:=[(0,(.row [(.str ((Ah txt).2)),(.str ((Ah txt).1))] 158))]) (by kernel_rfl) (by exact Nk) (by kernel_rfl) (by kernel_rfl) (by kernel_rfl) (by kernel_rfl) (by kernel_rfl) (Oi txt wd hl) (by kernel_rfl) (by kernel_rfl) (by kernel_rfl) ?_;refine Br (Aa [] [2] ?_);refine Ae ?_;refine Ej (.inl rfl) (al:=[(.str wd)]) (by kernel_rfl) ?_ ((by kernel_rfl:C6 1 _=some [(0,(.row [(.str ((Ah txt).2)),(.str ((Ah txt).1))] 158))]).trans ?_)
 ·rfl
 ·rfl
theorem X3a  :
  FnV Tryz.prog 120 [(.bool true)] (.tup []):=by
 refine A3 [] Tryz.func120 rfl Tryz.ntmps120 rfl rfl (fun B F hF=>?_);refine Aa [] [3] ?_;refine Du (by kernel_rfl) ?_;refine Ag (RK wN [] ?_);exact Same.of_eq (by first|rfl|(simp only[Af];simp_all))
end Sv
end
section
open Go Go.RowKit
namespace Sv
attribute [local irreducible] SW SO Bk SZ
set_option maxHeartbeats 1000000
set_option maxRecDepth 100000
theorem Fy:Ak Tryz.prog 120:=Ao Tryz.func120 (by kernel_rfl) rfl
theorem G0:Ak Tryz.prog 119:=Ao Tryz.func119 (by kernel_rfl) rfl
theorem Nk:Ak Tryz.prog 118:=Ao Tryz.func118 (by kernel_rfl) rfl
theorem Pb:Ak Tryz.prog 154:=Ao Tryz.func154 (by kernel_rfl) rfl
abbrev Rd:=DepT × List UInt8 × List UInt8
abbrev Rds:=List DepT × List UInt8 × List UInt8
def Js (t w:List UInt8):Option Rd:=if Bh w=true then some (if 0 < A7 signsL (Ah t).1 0 then (.mk 1 w (A7 signsL (Ah t).1 0) (Ah (Ah t).2).1 [],(Ah (Ah (Ah t).2).2).2,(Ah (Ah (Ah t).2).2).1) else (.mk 1 w 0 [] [],(Ah t).2,(Ah t).1)) else none
def E9 (one:List UInt8→List UInt8→Option Rd) (v:List UInt8):Nat→List DepT→List UInt8→List UInt8→Option Rds
 |0,_,_,_=>none
 |k+1,l,t,w=>if w=v then (if l.length=1∨¬v=[105,102]∧¬v=[119,105,116,104,111,117,116] then (match one (Ah t).2 (Ah t).1 with
   |none=>none
   |some (d,t',w')=>E9 one v k (l++[d]) t' w') else none) else some (l,t,w)
def G1 (one:List UInt8→List UInt8→Option Rd) (v:List UInt8):Option Rds→Option Rds
 |none=>none
 |some (l,t,w)=>if v=[105,102]∧w=[101,108,115,101] then (match one (Ah t).2 (Ah t).1 with
   |none=>none
   |some (d,t',w')=>some (l++[d],t',w')) else some (l,t,w)
def Iz (v:List UInt8):Option Rds→Option Rd
 |none=>none
 |some (l,t,w)=>if w=[41] then some (.mk (A7 Bj v 0) [] 0 [] l,(Ah t).2,(Ah t).1) else none
def Kh (one:List UInt8→List UInt8→Option Rd) (n:Nat):Option Rd→Option Rd
 |none=>none
 |some (d,t,w)=>if ¬w=[]∧0 < A7 Bj w 0 then Iz w (G1 one w (E9 one w n [d] t w)) else none
def Ce:Nat→List UInt8→List UInt8→Option Rd
 |0,_,_=>none
 |n+1,t,w=>if w=[40] then Kh (Ce n) n (Ce n (Ah t).2 (Ah t).1) else Js t w
def P0 (one:List UInt8→List UInt8→Option Rd):Prop:=∀(t w:List UInt8) (a:Rd),one t w=some a→a.2.1.length+a.2.2.length≤t.length∧a.1.size+2*(a.2.1.length+a.2.2.length)≤2*(t.length+w.length)∧1≤w.length
theorem Q5x (l:List DepT) (d:DepT):argsSize (l++[d])=argsSize l+d.size:=by
 induction l with
 |nil=>simp only[List.nil_append,argsSize];omega
 |cons x r ih=>simp only[List.cons_append,argsSize,ih];omega
theorem X3k:P0 Js:=by
 intro t w a h;have h1:=D3 t;have h2:=D3 (Ah t).2;have h3:=D3 (Ah (Ah t).2).2;unfold Js at h;split at h
 ·rename_i hb
  have hw:1≤w.length:=by
   cases w with
   |nil=>exact absurd hb (by decide)
   |cons c r=>simp
  cases h;split
  ·simp only[DepT.size,argsSize];exact⟨by omega,by omega,hw⟩
  ·simp only[DepT.size,argsSize,List.length_nil];exact⟨by omega,by omega,hw⟩
 ·cases h
theorem U0 {one:List UInt8→List UInt8→Option Rd} (ho:P0 one) {v:List UInt8}:∀(k:Nat) (l:List DepT) (t w:List UInt8) {a:Rds},E9 one v k l t w=some a→a.2.1.length+a.2.2.length≤t.length+w.length∧argsSize a.1+2*(a.2.1.length+a.2.2.length)≤argsSize l+2*(t.length+w.length)
 |0,l,t,w,a,h=>by cases h
 |k+1,l,t,w,a,h=>by
  have h1:=D3 t;unfold E9 at h;split at h
  ·split at h
   ·split at h
    ·cases h
    ·rename_i d t' w' hd;have h2:=ho _ _ _ hd;have h3:=U0 ho k _ _ _ h;rw[Q5x] at h3;simp only at h2 h3;exact⟨by omega,by omega⟩
   ·cases h
  ·cases h;exact⟨Nat.le_refl _,Nat.le_refl _⟩
theorem X83 {one:List UInt8→List UInt8→Option Rd} (ho:P0 one) {v:List UInt8} {l:List DepT} {t w:List UInt8} {a:Rds} (h:G1 one v (some (l,t,w))=some a):a.2.1.length+a.2.2.length≤t.length+w.length∧argsSize a.1+2*(a.2.1.length+a.2.2.length)≤argsSize l+2*(t.length+w.length):=by
 have h1:=D3 t;simp only[G1] at h;split at h
 ·split at h
  ·cases h
  ·rename_i d t' w' hd;have h2:=ho _ _ _ hd;cases h;simp only at h2 ⊢;rw[Q5x];exact⟨by omega,by omega⟩
 ·cases h;exact⟨Nat.le_refl _,Nat.le_refl _⟩
theorem Jo:∀n,P0 (Ce n)
 |0=>fun t w a h=>by cases h
 |n+1=>fun t w a h=>by
  have h1:=D3 t;rw[Ce] at h;split at h
  ·rename_i hw;subst hw;unfold Kh at h;split at h
   ·cases h
   ·rename_i d t1 w1 hd;have h2:=Jo n _ _ _ hd;split at h
    ·cases hm:E9 (Ce n) w1 n [d] t1 w1 with
     |none=>rw[hm] at h;cases h
     |some b =>
      obtain⟨l,t2,w2⟩:=b;have h3:=U0 (Jo n) _ _ _ _ hm;rw[hm] at h
      cases he:G1 (Ce n) w1 (some (l,t2,w2)) with
      |none=>simp[he,Iz] at h
      |some c =>
       obtain⟨l',t3,w3⟩:=c;have h4:=X83 (Jo n) he;have h5:=D3 t3;rw[he] at h;simp only[Iz] at h;split at h
       ·rename_i hw3;cases h;simp only[argsSize,DepT.size,List.length_nil,List.length_singleton] at *;subst hw3;simp only[List.length_singleton] at *;exact⟨by omega,by omega,Nat.le_refl _⟩
       ·cases h
    ·cases h
  ·exact X3k _ _ _ h
theorem Uk {n:Nat} {t w t' w':List UInt8} {d:DepT} (h:Ce n t w=some (d,t',w')):t'.length+w'.length≤t.length:=(Jo n _ _ _ h).1
theorem Lk (b:Bool) (h:b=true):FnV Tryz.prog 120 [.bool b] (.tup []):=by rw[h];exact X3a
theorem Ll (b:Bool) (h:b=false):W8 Tryz.prog Cp 120 [.bool b] [] 0:=fun B0 φ w vs hr hv=>by
 obtain⟨v,rfl,h1⟩:=hv.single_inv;simp only[VR] at h1;subst h1;refine(X3b b w).mono ?_;rintro e w' (⟨v,rfl,h2,_⟩|⟨rfl,_,rfl⟩)
 ·rw[h] at h2;cases h2
 ·exact Pan.pan ⟨φ,⟨⟨rfl,rfl,rfl,Nat.le_refl _,fun _ _=>rfl⟩,hr.fro,fun b o q=>(by cases q),fun b b' o o' k q=>(by cases q),fun b o k q=>(by cases q)⟩,fun _ _ _ q=>q,fun _ _ q=>q,fun _ _ q => .inl q⟩
theorem X37 {one:List UInt8→List UInt8→Option Rd} {v:List UInt8} {k:Nat} {l:List DepT} {t w:List UInt8} (hk:0 < k) (hw:w=v) (h:¬(l.length=1∨¬v=[105,102]∧¬v=[119,105,116,104,111,117,116])):E9 one v k l t w=none:=by
 obtain⟨j,rfl⟩:∃j,k=j+1:=⟨k-1,by omega⟩
 rw[E9,if_pos hw,if_neg h]
theorem Q1j {one:List UInt8→List UInt8→Option Rd} {v:List UInt8} {k:Nat} {l:List DepT} {t w:List UInt8} (hk:0 < k) (hw:w=v) (h:l.length=1∨¬v=[105,102]∧¬v=[119,105,116,104,111,117,116]) (e:one (Ah t).2 (Ah t).1=none):E9 one v k l t w=none:=by
 obtain⟨j,rfl⟩:∃j,k=j+1:=⟨k-1,by omega⟩
 rw[E9,if_pos hw,if_pos h,e]
theorem X38 {one:List UInt8→List UInt8→Option Rd} {v:List UInt8} {k:Nat} {l:List DepT} {t w t' w':List UInt8} {d:DepT} (hk:0 < k) (hw:w=v) (h:l.length=1∨¬v=[105,102]∧¬v=[119,105,116,104,111,117,116]) (e:one (Ah t).2 (Ah t).1=some (d,t',w')):E9 one v k l t w=E9 one v (k-1) (l++[d]) t' w':=by
 obtain⟨j,rfl⟩:∃j,k=j+1:=⟨k-1,by omega⟩
 rw[E9,if_pos hw,if_pos h,e];rfl
theorem X4d {one:List UInt8→List UInt8→Option Rd} {v:List UInt8} {k:Nat} {l:List DepT} {t w:List UInt8} (hk:0 < k) (hw:¬w=v):E9 one v k l t w=some (l,t,w):=by
 obtain⟨j,rfl⟩:∃j,k=j+1:=⟨k-1,by omega⟩
 rw[E9,if_neg hw]
theorem Q4z {one:List UInt8→List UInt8→Option Rd} {v:List UInt8} {l:List DepT} {t w:List UInt8} (h:v=[105,102]∧w=[101,108,115,101]) (e:one (Ah t).2 (Ah t).1=none):G1 one v (some (l,t,w))=none:=by rw[G1,if_pos h,e]
theorem X8x {one:List UInt8→List UInt8→Option Rd} {v:List UInt8} {l:List DepT} {t w t' w':List UInt8} {d:DepT} (h:v=[105,102]∧w=[101,108,115,101]) (e:one (Ah t).2 (Ah t).1=some (d,t',w')):G1 one v (some (l,t,w))=some (l++[d],t',w'):=by rw[G1,if_pos h,e]
theorem X82 {one:List UInt8→List UInt8→Option Rd} {v:List UInt8} {l:List DepT} {t w:List UInt8} (h:¬v=[105,102]∨¬w=[101,108,115,101]):G1 one v (some (l,t,w))=some (l,t,w):=by rw[G1,if_neg fun q=>h.elim (fun k=>k q.1) fun k=>k q.2]
theorem Q1i {m:Int} {n:Nat} {p q:Prop} [Decidable p] [Decidable q] {x:Bool} (e:m=n) (h:(decide (m=1)||(!decide p&&!decide q))=x):(x=true→n=1∨¬p∧¬q)∧(x=false→¬(n=1∨¬p∧¬q)):=by
 subst e h;by_cases h1:n=1<;>by_cases hp:p<;>by_cases hq:q<;>simp[h1,hp,hq]<;>omega
theorem Y0q (l:List DepT) (d:DepT):Imp (.row 5 (l.map Ap++[Ap d]).length (fun i=>(l.map Ap++[Ap d]).getD i Bn)) (.row 5 (l++[d]).length (depAt (l++[d]))):=by
 rw[show l.map Ap++[Ap d]=(l++[d]).map Ap by simp];exact(Imp.list (f:=Ap) (List.length_map Ap)).trans (I3 _)
theorem X2s (n:Nat) (t w:List UInt8) (hm:t.length+w.length < n+1) (hn:n≤8388608) (ih:∀t w:List UInt8,t.length+w.length < n→CallZ Tryz.prog Cp 119 [.ptr 0 0] [(0,.row [.str t,.str w] 158)] 1 (Ce n t w) (fun a=>Ap a.1) (fun a=>[(0,.row [.str a.2.1,.str a.2.2] 158)])) :
  CallZ Tryz.prog Cp 119 [(.ptr 0 0)] [(0,(.row [(.str t),(.str w)] 158))] 1 (Ce (n+1) t w) (fun a=>Ap a.1) (fun a=>[(0,.row [.str a.2.1,.str a.2.2] 158)]):=by
 have hL0:=D3 t;have hL1:=D3 (Ah t).2;have hL2:=D3 (Ah (Ah t).2).2;refine Y30 [.cell 2 67] Tryz.func119 rfl Tryz.ntmps119 rfl rfl (by kernel_rfl) (by kernel_rfl) (fun a=>by kernel_rfl) (fun B F hF=>?_);refine Aa [] [0,2] ?_;refine Ab ?_;refine An (Bm 1 0 [] [0,2,8] [] hk0 v0 c0 ?_);refine Ei [0] (al:=[(.ptr 0 0)]) (al':=[(.ptr 0 0)]) (r:=(.str w)) (r':=(.str w)) (s':=[(0,(.ptr 0 0)),(2,(.ptr 1 0)),(8,(.ptr 0 0)),(9,(.str w))]) (H:=[(0,(.row [(.str t),(.str w)] 158))]) (H':=[(0,(.row [(.str ((Ah t).2)),(.str ((Ah t).1))] 158))]) (h2:=[(0,(.row [(.str ((Ah t).2)),(.str ((Ah t).1))] 158)),(1,(.row [(.int .i64 0),(.str []),(.int .i64 0),(.str []),.nils] 67))]) (by kernel_rfl) (by exact Pb) (by kernel_rfl) (by kernel_rfl) (by kernel_rfl) (by kernel_rfl) (by kernel_rfl) (Qe t w (by omega)) (by kernel_rfl) (by kernel_rfl) (by kernel_rfl) ?_;refine Av 2 [] [0,2,3] [] hk0 v0 c0 ?_;refine Ab (Aa [] [0,2,3,11] ?_);refine Cr (p:=w=[40]) (by kernel_rfl) (fun c1=>?_) (fun c1=>?_)
 ·have hw:¬w=[40]:=c1;refine Ab ?_;refine An (Bm 2 0 [] [0,2,3,13] [] (hk 1 Ks (Nx w (by omega))<|hk0) v0 c0 ?_);refine Hs (Bh w) (fun hz1=>?_) (fun hz1=>Ha [] (by exact Fy) (Ll (Bh w) hz1) (fun _ _=>show Cp=Cp∧Ce (n+1) t w=none from ⟨rfl,by rw[Ce,if_neg hw,Js,if_neg (by rw[hz1];simp)]⟩));have hnm:=hz1;refine K2 (s':=[(0,(.ptr 0 0)),(2,(.ptr 1 0)),(3,(.str w)),(13,(.bool (Bh w))),(14,(.tup []))]) (al:=[(.bool (Bh w))]) (r:=(.tup [])) (by kernel_rfl) (by exact Fy) (by kernel_rfl) (by kernel_rfl) (Lk (Bh w) hz1) (by kernel_rfl) ?_;refine Br (Aa [] [0,2,4] ?_);refine Ab (Co [] [0,2,4,5] [] (hk 0 Vs Yg<|hk 5 Pa ((Ru signsL ((Ah t).1) (by decide)))<|hk0) v0 c0 ?_);refine Aa [] [0,2,4,5,24] ?_;refine Ax (p:=0 < (A7 signsL ((Ah t).1) 0)) (by kernel_rfl) (fun c2=>?_) (fun c2=>?_)
  ·refine Ab ?_;refine An (Bm 1 0 [] [0,2,4,5,25] [] hk0 v0 c0 ?_);refine Ei [0] (al:=[(.ptr 0 0)]) (al':=[(.ptr 0 0)]) (r:=(.tup [])) (r':=(.tup [])) (s':=[(0,(.ptr 0 0)),(2,(.ptr 1 0)),(4,(.ptr 2 0)),(5,(.int .i64 (A7 signsL ((Ah t).1) 0))),(25,(.ptr 0 0)),(26,(.tup []))]) (H:=[(0,(.row [(.str ((Ah t).2)),(.str ((Ah t).1))] 158))]) (H':=[(0,(.row [(.str ((Ah ((Ah t).2)).2)),(.str ((Ah ((Ah t).2)).1))] 158))]) (h2:=[(0,(.row [(.str ((Ah ((Ah t).2)).2)),(.str ((Ah ((Ah t).2)).1))] 158)),(1,(.row [(.int .i64 0),(.str []),(.int .i64 0),(.str []),.nils] 67)),(2,(.row [(.int .i64 1),(.str w),(.int .i64 0),(.str []),.nils] 67))]) (by kernel_rfl) (by exact Nk) (by kernel_rfl) (by kernel_rfl) (by kernel_rfl) (by kernel_rfl) (by kernel_rfl) (Oi ((Ah t).2) ((Ah t).1) (by omega)) (by kernel_rfl) (by kernel_rfl) (by kernel_rfl) ?_;refine Br ?_;refine An (Bm 2 0 [] [2,4,27,28] [] hk0 v0 c0 ?_)
   refine Ei [0] (al:=[(.ptr 0 0)]) (al':=[(.ptr 0 0)]) (r:=(.str ((Ah ((Ah t).2)).1))) (r':=(.str ((Ah ((Ah t).2)).1))) (s':=[(2,(.ptr 1 0)),(4,(.ptr 2 0)),(27,(.int .i64 (A7 signsL ((Ah t).1) 0))),(28,(.ptr 0 0)),(29,(.str ((Ah ((Ah t).2)).1)))]) (H:=[(0,(.row [(.str ((Ah ((Ah t).2)).2)),(.str ((Ah ((Ah t).2)).1))] 158))]) (H':=[(0,(.row [(.str ((Ah ((Ah ((Ah t).2)).2)).2)),(.str ((Ah ((Ah ((Ah t).2)).2)).1))] 158))]) (h2:=[(0,(.row [(.str ((Ah ((Ah ((Ah t).2)).2)).2)),(.str ((Ah ((Ah ((Ah t).2)).2)).1))] 158)),(1,(.row [(.int .i64 0),(.str []),(.int .i64 0),(.str []),.nils] 67)),(2,(.row [(.int .i64 1),(.str w),(.int .i64 0),(.str []),.nils] 67))]) (by kernel_rfl) (by exact Pb) (by kernel_rfl) (by kernel_rfl) (by kernel_rfl) (by kernel_rfl) (by kernel_rfl) (Qe ((Ah ((Ah t).2)).2) ((Ah ((Ah t).2)).1) (by omega)) (by kernel_rfl) (by kernel_rfl) (by kernel_rfl) ?_;refine Av 3 [] [2,4] [] hk0 v0 c0 ?_
   refine Ad [] [2] [] hk0 (vk 1 32 (a:=(.agg [(.int .i64 1),(.str w),(.int .i64 (A7 signsL ((Ah t).1) 0)),(.str ((Ah ((Ah t).2)).1)),.nils])) (b:=(.agg [(.int .i64 ((DepT.mk 1 w (A7 signsL ((Ah t).1) 0) ((Ah ((Ah t).2)).1) []).kind)),(.str ((DepT.mk 1 w (A7 signsL ((Ah t).1) 0) ((Ah ((Ah t).2)).1) []).name)),(.int .i64 ((DepT.mk 1 w (A7 signsL ((Ah t).1) 0) ((Ah ((Ah t).2)).1) []).op)),(.str ((DepT.mk 1 w (A7 signsL ((Ah t).1) 0) ((Ah ((Ah t).2)).1) []).evr)),(.row 5 (DepT.mk 1 w (A7 signsL ((Ah t).1) 0) ((Ah ((Ah t).2)).1) []).args.length (depAt (DepT.mk 1 w (A7 signsL ((Ah t).1) 0) ((Ah ((Ah t).2)).1) []).args))])) ((Imp.aggs (ImpL.cons Imp.refl (ImpL.cons Imp.refl (ImpL.cons Imp.refl (ImpL.cons Imp.refl (ImpL.cons (Imp.nil.trans (I3 [])) ImpL.nil)))))))<|v0) c0 ?_;refine Ae ?_
   refine Qv (ch:=Cp) (DepT.mk 1 w (A7 signsL (Ah t).1 0) (Ah (Ah t).2).1 [],(Ah (Ah (Ah t).2).2).2,(Ah (Ah (Ah t).2).2).1) ?_ wR (al:=[(.agg [(.int .i64 ((DepT.mk 1 w (A7 signsL ((Ah t).1) 0) ((Ah ((Ah t).2)).1) []).kind)),(.str ((DepT.mk 1 w (A7 signsL ((Ah t).1) 0) ((Ah ((Ah t).2)).1) []).name)),(.int .i64 ((DepT.mk 1 w (A7 signsL ((Ah t).1) 0) ((Ah ((Ah t).2)).1) []).op)),(.str ((DepT.mk 1 w (A7 signsL ((Ah t).1) 0) ((Ah ((Ah t).2)).1) []).evr)),(.row 5 (DepT.mk 1 w (A7 signsL ((Ah t).1) 0) ((Ah ((Ah t).2)).1) []).args.length (depAt (DepT.mk 1 w (A7 signsL ((Ah t).1) 0) ((Ah ((Ah t).2)).1) []).args))])]) (by kernel_rfl) ?_ ((by kernel_rfl:C6 1 _=some [(0,(.row [(.str ((Ah ((Ah ((Ah t).2)).2)).2)),(.str ((Ah ((Ah ((Ah t).2)).2)).1))] 158))]).trans ?_)
   ·rw[Ce,if_neg hw,Js,if_pos hnm,if_pos c2]
   ·rfl
   ·rfl
  ·refine Ag (Ad [] [2] [] hk0 (vk 1 32 (a:=(.agg [(.int .i64 1),(.str w),(.int .i64 0),(.str []),.nils])) (b:=(.agg [(.int .i64 ((DepT.mk 1 w 0 [] []).kind)),(.str ((DepT.mk 1 w 0 [] []).name)),(.int .i64 ((DepT.mk 1 w 0 [] []).op)),(.str ((DepT.mk 1 w 0 [] []).evr)),(.row 5 (DepT.mk 1 w 0 [] []).args.length (depAt (DepT.mk 1 w 0 [] []).args))])) ((Imp.aggs (ImpL.cons Imp.refl (ImpL.cons Imp.refl (ImpL.cons Imp.refl (ImpL.cons Imp.refl (ImpL.cons (Imp.nil.trans (I3 [])) ImpL.nil)))))))<|v0) c0 ?_);refine Ae ?_;refine Qv (ch:=Cp) (DepT.mk 1 w 0 [] [],(Ah t).2,(Ah t).1) ?_ wR (al:=[(.agg [(.int .i64 ((DepT.mk 1 w 0 [] []).kind)),(.str ((DepT.mk 1 w 0 [] []).name)),(.int .i64 ((DepT.mk 1 w 0 [] []).op)),(.str ((DepT.mk 1 w 0 [] []).evr)),(.row 5 (DepT.mk 1 w 0 [] []).args.length (depAt (DepT.mk 1 w 0 [] []).args))])]) (by kernel_rfl) ?_ ((by kernel_rfl:C6 1 _=some [(0,(.row [(.str ((Ah t).2)),(.str ((Ah t).1))] 158))]).trans ?_)
   ·rw[Ce,if_neg hw,Js,if_pos hnm,if_neg c2]
   ·rfl
   ·rfl
 ·have hw:w=[40]:=c1
  have hwl:w.length=1:=by rw[hw];rfl
  refine Ag (Ab ?_);refine An (Bm 1 0 [] [0,2,33] [] hk0 v0 c0 ?_);refine Re (Ce n ((Ah t).2) ((Ah t).1)) (fun hz2=>Ha [0] (by exact G0) ((ih ((Ah t).2) ((Ah t).1) (by omega)).no hz2) (fun _ _=>show Cp=Cp∧Ce (n+1) t w=none from ⟨rfl,by rw[Ce,if_pos hw,hz2];rfl⟩)) (fun⟨d0,t1,w1⟩ hz2=>?_);have hle:=Uk hz2;have hL3:=D3 t1
  have hpar:Ce (n+1) t w=Kh (Ce n) n (some (d0,t1,w1)):=by rw[Ce,if_pos hw,hz2]
  refine Ei [0] (al:=[(.ptr 0 0)]) (al':=[(.ptr 0 0)]) (r:=(.agg [(.int .i64 d0.kind),(.str d0.name),(.int .i64 d0.op),(.str d0.evr),(.row 5 d0.args.length (depAt d0.args))])) (r':=(.agg [(.int .i64 d0.kind),(.str d0.name),(.int .i64 d0.op),(.str d0.evr),(.row 5 d0.args.length (depAt d0.args))])) (s':=[(0,(.ptr 0 0)),(2,(.ptr 1 0)),(33,(.ptr 0 0)),(34,(.agg [(.int .i64 d0.kind),(.str d0.name),(.int .i64 d0.op),(.str d0.evr),(.row 5 d0.args.length (depAt d0.args))]))]) (H:=[(0,(.row [(.str ((Ah t).2)),(.str ((Ah t).1))] 158))]) (H':=[(0,(.row [(.str t1),(.str w1)] 158))]) (h2:=[(0,(.row [(.str t1),(.str w1)] 158)),(1,(.row [(.int .i64 0),(.str []),(.int .i64 0),(.str []),.nils] 67))]) (by kernel_rfl) (by exact G0) (by kernel_rfl) (by kernel_rfl) (by kernel_rfl) (by kernel_rfl) (by kernel_rfl) ((ih ((Ah t).2) ((Ah t).1) (by omega)).yes hz2) (by kernel_rfl) (by kernel_rfl) (by kernel_rfl) ?_;refine Bm 1 2 [] [0,2,35] [] hk0 v0 c0 ?_
  refine Q62 67 5 35 (y:=⟨[(0,(.ptr 0 0)),(2,(.ptr 1 0)),(35,(.own 3))],[(0,(.row [(.str t1),(.str w1)] 158)),(1,(.row [(.int .i64 0),(.str []),(.int .i64 0),(.str []),.nils] 67)),(3,(.grow ([(.agg [(.int .i64 d0.kind),(.str d0.name),(.int .i64 d0.op),(.str d0.evr),(.row 5 d0.args.length (depAt d0.args))])]:List AV) 67 5))],4⟩) (by kernel_rfl) (by kernel_rfl) ?_;refine Av 3 [] [0,2,6] [] hk0 v0 c0 ?_;refine Aa [] [0,2,6,7] ?_;refine Ab ?_;refine An (Bm 2 0 [] [0,2,6,7,42] [] hk0 v0 c0 ?_);refine Hs (!decide (w1=[])) (fun hz3=>?_) (fun hz3=>Ha [] (by exact Fy) (Ll (!decide (w1=[])) hz3) (fun _ _=>show Cp=Cp∧Ce (n+1) t w=none from ⟨rfl,by rw[hpar,Kh,if_neg (fun q=>q.1 (by simpa using hz3))]⟩))
  have hne:¬w1=[]:=by simpa using hz3
  have hwl1:1≤w1.length:=List.length_pos_iff.2 hne;refine K2 (s':=[(0,(.ptr 0 0)),(2,(.ptr 1 0)),(6,(.ptr 4 0)),(7,(.str w1)),(42,(.bool (!decide (w1=[])))),(43,(.tup []))]) (al:=[(.bool (!decide (w1=[])))]) (r:=(.tup [])) (by kernel_rfl) (by exact Fy) (by kernel_rfl) (by kernel_rfl) (Lk (!decide (w1=[])) hz3) (by kernel_rfl) ?_;refine Br (Ad [] [0,2,6,7] [] (hk 0 Vr Xk<|hk 2 Pa ((Ru Bj w1 (by decide)))<|hk0) v0 c0 ?_);refine Ab ?_;refine An (Bm 3 0 [] [0,2,6,7,50] [] hk0 v0 c0 ?_);refine Hs (decide (0 < (A7 Bj w1 0))) (fun hz4=>?_) (fun hz4=>Ha [] (by exact Fy) (Ll (decide (0 < (A7 Bj w1 0))) hz4) (fun _ _=>show Cp=Cp∧Ce (n+1) t w=none from ⟨rfl,by rw[hpar,Kh,if_neg (fun q=>absurd q.2 (of_decide_eq_false hz4))]⟩));have hkd:0 < A7 Bj w1 0:=of_decide_eq_true hz4;refine K2 (s':=[(0,(.ptr 0 0)),(2,(.ptr 1 0)),(6,(.ptr 4 0)),(7,(.str w1)),(50,(.bool (decide (0 < (A7 Bj w1 0))))),(51,(.tup []))]) (al:=[(.bool (decide (0 < (A7 Bj w1 0))))]) (r:=(.tup [])) (by kernel_rfl) (by exact Fy) (by kernel_rfl) (by kernel_rfl) (Lk (decide (0 < (A7 Bj w1 0))) hz4) (by kernel_rfl) ?_;refine Br ?_;refine Ab (Az ?_)
  refine Bx (fun g y=>∃(k:Nat) (l:List DepT) (tt ww:List UInt8),tt.length+ww.length < k∧k≤n∧1≤l.length∧l.length+(tt.length+ww.length)≤n+1∧Ce (n+1) t w=Iz w1 (G1 (Ce n) w1 (E9 (Ce n) w1 k l tt ww))∧y=⟨[(0,(.ptr 0 0)),(2,(.ptr 1 0)),(6,(.ptr 4 0)),(7,(.str w1))],[(0,(.row [(.str tt),(.str ww)] 158)),(1,(.row [(.int .i64 0),(.str []),(.int .i64 0),(.str []),.nils] 67)),(3,(.grow (l.map Ap) 67 5)),(4,(.row [(.int .i64 (A7 Bj w1 0)),(.str []),(.int .i64 0),(.str []),(.own 3)] 67))],5⟩∧g=k+1) [0,2,6,7] 5 _ (by omega) ⟨n,[d0],t1,w1,(by omega),(by omega),(by simp),(by simp;omega),(by rw[hpar,Kh,if_pos ⟨hne,hkd⟩]),(by kernel_rfl),rfl⟩ ?_;rintro g1 y1 ⟨k,l,tt,ww,hk1,hk2,hl1,hl2,hq,rfl,rfl⟩;have hLt:=D3 tt;have hml:(l.map Ap).length=l.length:=List.length_map Ap;refine Ab (Aa [] [0,2,6,7,57] ?_);refine Ax (p:=ww=w1) (by kernel_rfl) (fun c3=>?_) (fun c3=>?_)
  ·have hwe:ww.length=w1.length:=by rw[c3]
   refine Ag ?_;refine Az (Ab ?_);refine An (Bm (CS:=[(6,((!(decide (((l.map Ap).length:Int)=1)))=true→(!(decide (((l.map Ap).length:Int)=1)))=true)),(7,((!(decide (((l.map Ap).length:Int)=1)))=true→(!(decide (((l.map Ap).length:Int)=1)))=true)),(9,(((!(decide (((l.map Ap).length:Int)=1)))&&(!decide (w1=[105,102])))=true→((!(decide (((l.map Ap).length:Int)=1)))&&(!decide (w1=[105,102])))=true)),(10,((!(decide (((l.map Ap).length:Int)=1)))=true→((!(decide (((l.map Ap).length:Int)=1)))=true)∧((!decide (w1=[105,102]))=true→((!(decide (((l.map Ap).length:Int)=1)))&&(!decide (w1=[105,102])))=true))),(11,((decide (((l.map Ap).length:Int)=1))=false→(!(decide (((l.map Ap).length:Int)=1)))=true))]) 12 0 [63,64,65,66,67,68] [0,2,6,7,69] [] hk0 v0 (by refine cc _ ?_<|cc _ ?_<|cc _ ?_<|cc _ ?_<|cc _ ?_ c0<;>first|omega|(simp;omega)|(simp;done)|(intros;simp_all;omega)|(intros;simp_all;done)) ?_)
   refine Hs ((decide (((l.map Ap).length:Int)=1))||((!decide (w1=[105,102]))&&(!decide (w1=[119,105,116,104,111,117,116])))) (fun hz5=>?_) (fun hz5=>Ha [] (by exact Fy) (Ll ((decide (((l.map Ap).length:Int)=1))||((!decide (w1=[105,102]))&&(!decide (w1=[119,105,116,104,111,117,116])))) hz5) (fun _ _=>show Cp=Cp∧Ce (n+1) t w=none from ⟨rfl,by rw[hq,X37 (by omega) c3 ((Q1i (by omega) hz5).2 rfl)];rfl⟩));have hok:=(Q1i (n:=l.length) (by omega) hz5).1 rfl;refine K2 (s':=[(0,(.ptr 0 0)),(2,(.ptr 1 0)),(6,(.ptr 4 0)),(7,(.str w1)),(69,(.bool ((decide (((l.map Ap).length:Int)=1))||((!decide (w1=[105,102]))&&(!decide (w1=[119,105,116,104,111,117,116])))))),(70,(.tup []))]) (al:=[(.bool ((decide (((l.map Ap).length:Int)=1))||((!decide (w1=[105,102]))&&(!decide (w1=[119,105,116,104,111,117,116])))))]) (r:=(.tup [])) (by kernel_rfl) (by exact Fy) (by kernel_rfl) (by kernel_rfl) (Lk ((decide (((l.map Ap).length:Int)=1))||((!decide (w1=[105,102]))&&(!decide (w1=[119,105,116,104,111,117,116])))) hz5) (by kernel_rfl) ?_;refine Br (Ab ?_);refine An (Bm 1 0 [] [0,2,6,7,71] [] hk0 v0 c0 ?_)
   refine Ei [0] (al:=[(.ptr 0 0)]) (al':=[(.ptr 0 0)]) (r:=(.tup [])) (r':=(.tup [])) (s':=[(0,(.ptr 0 0)),(2,(.ptr 1 0)),(6,(.ptr 4 0)),(7,(.str w1)),(71,(.ptr 0 0)),(72,(.tup []))]) (H:=[(0,(.row [(.str tt),(.str ww)] 158))]) (H':=[(0,(.row [(.str ((Ah tt).2)),(.str ((Ah tt).1))] 158))]) (h2:=[(0,(.row [(.str ((Ah tt).2)),(.str ((Ah tt).1))] 158)),(1,(.row [(.int .i64 0),(.str []),(.int .i64 0),(.str []),.nils] 67)),(3,(.grow (l.map Ap) 67 5)),(4,(.row [(.int .i64 (A7 Bj w1 0)),(.str []),(.int .i64 0),(.str []),(.own 3)] 67))]) (by kernel_rfl) (by exact Nk) (by kernel_rfl) (by kernel_rfl) (by kernel_rfl) (by kernel_rfl) (by kernel_rfl) (Oi tt ww (by omega)) (by kernel_rfl) (by kernel_rfl) (by kernel_rfl) ?_;refine Br ?_;refine Re (Ce n ((Ah tt).2) ((Ah tt).1)) (fun hz6=>?_) (fun⟨d1,t2,w2⟩ hz6=>?_)
   ·refine Q61 (by kernel_rfl) ?_;refine Sy 0 ?_;refine Sy 2 ?_;refine Q6x 1 3 (by kernel_rfl) rfl rfl ?_ ?_
    ·refine Dd [] [75] ?_;refine Q6y 3 (by kernel_rfl) rfl ?_;exact Ha [0] (by exact G0) ((ih ((Ah tt).2) ((Ah tt).1) (by omega)).no hz6) (fun _ _=>show Cp=Cp∧Ce (n+1) t w=none from ⟨rfl,by rw[hq,Q1j (by omega) c3 hok hz6];rfl⟩)
    ·exact Ha [0] (by exact G0) ((ih ((Ah tt).2) ((Ah tt).1) (by omega)).no hz6) (fun _ _=>show Cp=Cp∧Ce (n+1) t w=none from ⟨rfl,by rw[hq,Q1j (by omega) c3 hok hz6];rfl⟩)
   ·have hle2:=Uk hz6;have hq2:=hz6;refine Ja (by kernel_rfl) (fun F1 hF1=>?_);refine Ch false 3 (lsD 8 [0,1,2,3,4]) ⟨[(0,(.ptr 0 0)),(2,(.ptr 1 0)),(6,(.ptr 4 0)),(7,(.str w1)),(74,(.own 3)),(77,(.sl 5 0 1 1 false))],[(0,(.row [(.str t2),(.str w2)] 158)),(1,(.row [(.int .i64 0),(.str []),(.int .i64 0),(.str []),.nils] 67)),(3,(.grow (l.map Ap) 67 5)),(4,(.row [(.int .i64 (A7 Bj w1 0)),(.str []),(.int .i64 0),(.str []),(.own 3)] 67)),(5,(.row [(.int .i64 d1.kind),(.str d1.name),(.int .i64 d1.op),(.str d1.evr),(.row 5 d1.args.length (depAt d1.args))] 67))],6⟩ ?_ (fun m1_1=>?_)
    ·refine Db (fuel:=2) 5 [] (hold (p:=(((l.map Ap).length+1)*72≤140737488355328)) (by first|omega|(simp;omega)|(simp;done)|(intros;simp_all;omega)|(intros;simp_all;done))) ?_;refine C3 (fuel:=1) [] [6] [0,2,6,7,78,79] A1 ?_;refine Db (fuel:=0) 7 [] A1 ?_;refine Ay [0,2,6,7] ?_;refine Hy (by kernel_rfl) ?_;refine⟨by kernel_rfl,_,?_,(k-1),(l++[d1]),t2,w2,?_,?_,?_,?_,?_,(Eq.trans (b:=(⟨[(0,(.ptr 0 0)),(2,(.ptr 1 0)),(6,(.ptr 4 0)),(7,(.str w1))],[(0,(.row [(.str t2),(.str w2)] 158)),(1,(.row [(.int .i64 0),(.str []),(.int .i64 0),(.str []),.nils] 67)),(3,(.grow ((l.map Ap)++([(.agg [(.int .i64 d1.kind),(.str d1.name),(.int .i64 d1.op),(.str d1.evr),(.row 5 d1.args.length (depAt d1.args))])]:List AV)) 67 5)),(4,(.row [(.int .i64 (A7 Bj w1 0)),(.str []),(.int .i64 0),(.str []),(.own 3)] 67))],5⟩:St)) (by kernel_rfl) (by rw[show(l++[d1]).map Ap=l.map Ap++[Ap d1] from by rw[List.map_append];rfl]<;>kernel_rfl)),rfl⟩
     ·omega
     ·omega
     ·omega
     ·simp
     ·rw[List.length_append,List.length_singleton];omega
     ·rw[hq,X38 (by omega) c3 hok hq2]
    refine Ch false 4 (lsD 8 [0,1,2,3]) ⟨[(0,(.ptr 0 0)),(2,(.ptr 1 0)),(6,(.ptr 4 0)),(7,(.str w1)),(74,(.own 3)),(76,(.agg [(.int .i64 d1.kind),(.str d1.name),(.int .i64 d1.op),(.str d1.evr),(.row 5 d1.args.length (depAt d1.args))]))],[(0,(.row [(.str t2),(.str w2)] 158)),(1,(.row [(.int .i64 0),(.str []),(.int .i64 0),(.str []),.nils] 67)),(3,(.grow (l.map Ap) 67 5)),(4,(.row [(.int .i64 (A7 Bj w1 0)),(.str []),(.int .i64 0),(.str []),(.own 3)] 67))],5⟩ ?_ (fun m1_2=>?_)
    ·refine Db (fuel:=3) 4 [] A1 ?_;refine Ay [0,2,6,7,74,77] ?_;exact A8 m1_1
    refine C3 (fuel:=6) [] [0,2] [0,2,6,7,73,75] A1 ?_;refine Ck 1 3 (by kernel_rfl) ?_ ?_
    ·refine A9 (fuel:=5) 1 [] A1 ?_;refine Ay [0,2,6,7,74,75] ?_;refine Ev (fuel:=4) 3 (by kernel_rfl) ?_;refine Cs (fuel:=4) 3 rfl ?_;refine Ei [0] (al:=[(.ptr 0 0)]) (al':=[(.ptr 0 0)]) (r:=(.agg [(.int .i64 d1.kind),(.str d1.name),(.int .i64 d1.op),(.str d1.evr),(.row 5 d1.args.length (depAt d1.args))])) (r':=(.agg [(.int .i64 d1.kind),(.str d1.name),(.int .i64 d1.op),(.str d1.evr),(.row 5 d1.args.length (depAt d1.args))])) (s':=[(0,(.ptr 0 0)),(2,(.ptr 1 0)),(6,(.ptr 4 0)),(7,(.str w1)),(74,(.own 3)),(75,(.ptr 0 0)),(76,(.agg [(.int .i64 d1.kind),(.str d1.name),(.int .i64 d1.op),(.str d1.evr),(.row 5 d1.args.length (depAt d1.args))]))]) (H:=[(0,(.row [(.str ((Ah tt).2)),(.str ((Ah tt).1))] 158))]) (H':=[(0,(.row [(.str t2),(.str w2)] 158))]) (h2:=[(0,(.row [(.str t2),(.str w2)] 158)),(1,(.row [(.int .i64 0),(.str []),(.int .i64 0),(.str []),.nils] 67)),(3,(.grow (l.map Ap) 67 5)),(4,(.row [(.int .i64 (A7 Bj w1 0)),(.str []),(.int .i64 0),(.str []),(.own 3)] 67))]) (by kernel_rfl) (by exact G0) (by kernel_rfl) (by kernel_rfl) (by kernel_rfl) (by kernel_rfl) (by kernel_rfl) ((ih ((Ah tt).2) ((Ah tt).1) (by omega)).yes hz6) (by kernel_rfl) (by kernel_rfl) (by kernel_rfl) ?_
     refine Br ⟨rfl,?_⟩;refine Ay [0,2,6,7,74,76] ?_;exact A8 m1_2
    ·refine Cs (fuel:=5) 3 rfl ?_;refine Ei [0] (al:=[(.ptr 0 0)]) (al':=[(.ptr 0 0)]) (r:=(.agg [(.int .i64 d1.kind),(.str d1.name),(.int .i64 d1.op),(.str d1.evr),(.row 5 d1.args.length (depAt d1.args))])) (r':=(.agg [(.int .i64 d1.kind),(.str d1.name),(.int .i64 d1.op),(.str d1.evr),(.row 5 d1.args.length (depAt d1.args))])) (s':=[(0,(.ptr 0 0)),(2,(.ptr 1 0)),(6,(.ptr 4 0)),(7,(.str w1)),(73,(.ptr 4 4)),(75,(.ptr 0 0)),(76,(.agg [(.int .i64 d1.kind),(.str d1.name),(.int .i64 d1.op),(.str d1.evr),(.row 5 d1.args.length (depAt d1.args))]))]) (H:=[(0,(.row [(.str ((Ah tt).2)),(.str ((Ah tt).1))] 158))]) (H':=[(0,(.row [(.str t2),(.str w2)] 158))]) (h2:=[(0,(.row [(.str t2),(.str w2)] 158)),(1,(.row [(.int .i64 0),(.str []),(.int .i64 0),(.str []),.nils] 67)),(3,(.grow (l.map Ap) 67 5)),(4,(.row [(.int .i64 (A7 Bj w1 0)),(.str []),(.int .i64 0),(.str []),(.own 3)] 67))]) (by kernel_rfl) (by exact G0) (by kernel_rfl) (by kernel_rfl) (by kernel_rfl) (by kernel_rfl) (by kernel_rfl) ((ih ((Ah tt).2) ((Ah tt).1) (by omega)).yes hz6) (by kernel_rfl) (by kernel_rfl) (by kernel_rfl) ?_;refine Br ⟨rfl,?_⟩;refine Ay [0,2,6,7,73,76] ?_;refine Ck 1 4 (by kernel_rfl) ?_ ?_
     ·refine A9 (fuel:=4) 1 [] A1 ?_;refine Ay [0,2,6,7,74,76] ?_;exact A8 m1_2
     ·refine A9 (fuel:=4) 4 [] A1 ?_;refine Ay [0,2,6,7,73,77] ?_;refine Db (fuel:=3) 1 [] A1 ?_;refine Ay [0,2,6,7,74,77] ?_;exact A8 m1_1
  ·have hq2:=hq.trans (by rw[X4d (by omega) c3]);refine Bp ?_;refine Ab (Ad (CS:=[(4,((decide (w1=[105,102]))=true→(decide (w1=[105,102]))=true)),(5,((decide (w1=[105,102]))=true→(decide (w1=[105,102]))=true)),(6,((decide (w1=[105,102]))=true→(decide (w1=[105,102]))=true)),(7,((decide (w1=[105,102]))=true→(decide (w1=[105,102]))=true)),(8,((decide (w1=[105,102]))=true→(decide (w1=[105,102]))=true))]) [83,84,85,86,87] [0,2,6,88] [] hk0 v0 (by refine cc _ ?_<|cc _ ?_<|cc _ ?_<|cc _ ?_<|cc _ ?_ c0<;>first|omega|(simp;omega)|(simp;done)|(intros;simp_all;omega)|(intros;simp_all;done)) ?_);refine A5 (q:=(decide (w1=[105,102]))&&(decide (ww=[101,108,115,101]))) (by kernel_rfl) (fun c4=>?_) (fun c4=>?_)
   ·try simp only[Ai] at c4
    refine Ab ?_;refine An (Bm 1 0 [] [0,2,6,89] [] hk0 v0 c0 ?_);refine Ei [0] (al:=[(.ptr 0 0)]) (al':=[(.ptr 0 0)]) (r:=(.tup [])) (r':=(.tup [])) (s':=[(0,(.ptr 0 0)),(2,(.ptr 1 0)),(6,(.ptr 4 0)),(89,(.ptr 0 0)),(90,(.tup []))]) (H:=[(0,(.row [(.str tt),(.str ww)] 158))]) (H':=[(0,(.row [(.str ((Ah tt).2)),(.str ((Ah tt).1))] 158))]) (h2:=[(0,(.row [(.str ((Ah tt).2)),(.str ((Ah tt).1))] 158)),(1,(.row [(.int .i64 0),(.str []),(.int .i64 0),(.str []),.nils] 67)),(3,(.grow (l.map Ap) 67 5)),(4,(.row [(.int .i64 (A7 Bj w1 0)),(.str []),(.int .i64 0),(.str []),(.own 3)] 67))]) (by kernel_rfl) (by exact Nk) (by kernel_rfl) (by kernel_rfl) (by kernel_rfl) (by kernel_rfl) (by kernel_rfl) (Oi tt ww (by omega)) (by kernel_rfl) (by kernel_rfl) (by kernel_rfl) ?_;refine Br ?_;refine Re (Ce n ((Ah tt).2) ((Ah tt).1)) (fun hz7=>?_) (fun⟨d1,t2,w2⟩ hz7=>?_)
    ·refine Q61 (by kernel_rfl) ?_;refine Sy 0 ?_;refine Sy 2 ?_;refine Q6x 1 3 (by kernel_rfl) rfl rfl ?_ ?_
     ·refine Dd [] [93] ?_;refine Q6y 3 (by kernel_rfl) rfl ?_;exact Ha [0] (by exact G0) ((ih ((Ah tt).2) ((Ah tt).1) (by omega)).no hz7) (fun _ _=>show Cp=Cp∧Ce (n+1) t w=none from ⟨rfl,by rw[hq2,Q4z c4 hz7];rfl⟩)
     ·exact Ha [0] (by exact G0) ((ih ((Ah tt).2) ((Ah tt).1) (by omega)).no hz7) (fun _ _=>show Cp=Cp∧Ce (n+1) t w=none from ⟨rfl,by rw[hq2,Q4z c4 hz7];rfl⟩)
    ·have hle2:=Uk hz7;have hq3:=hq2.trans (by rw[X8x c4 hz7]);refine Ja (by kernel_rfl) (fun F2 hF2=>?_);refine Ch false 3 (lsD 8 [0,1,2,3,4]) ⟨[(0,(.ptr 0 0)),(2,(.ptr 1 0)),(6,(.ptr 4 0)),(92,(.own 3)),(95,(.sl 5 0 1 1 false))],[(0,(.row [(.str t2),(.str w2)] 158)),(1,(.row [(.int .i64 0),(.str []),(.int .i64 0),(.str []),.nils] 67)),(3,(.grow (l.map Ap) 67 5)),(4,(.row [(.int .i64 (A7 Bj w1 0)),(.str []),(.int .i64 0),(.str []),(.own 3)] 67)),(5,(.row [(.int .i64 d1.kind),(.str d1.name),(.int .i64 d1.op),(.str d1.evr),(.row 5 d1.args.length (depAt d1.args))] 67))],6⟩ ?_ (fun m2_1=>?_)
     ·refine Db (fuel:=2) 5 [] (hold (p:=(((l.map Ap).length+1)*72≤140737488355328)) (by first|omega|(simp;omega)|(simp;done)|(intros;simp_all;omega)|(intros;simp_all;done))) ?_;refine C3 (fuel:=1) [] [6] [0,2,6,96,97] A1 ?_;refine Db (fuel:=0) 7 [] A1 ?_;refine Ay [0,2,6] ?_;refine Hy (by kernel_rfl) ?_;refine Ab ?_;refine An (Bm 1 0 [] [2,6,98] [] hk0 v0 c0 ?_)
      refine Ei [0] (al:=[(.ptr 0 0)]) (al':=[(.ptr 0 0)]) (r:=(.str w2)) (r':=(.str w2)) (s':=[(2,(.ptr 1 0)),(6,(.ptr 4 0)),(98,(.ptr 0 0)),(99,(.str w2))]) (H:=[(0,(.row [(.str t2),(.str w2)] 158))]) (H':=[(0,(.row [(.str ((Ah t2).2)),(.str ((Ah t2).1))] 158))]) (h2:=[(0,(.row [(.str ((Ah t2).2)),(.str ((Ah t2).1))] 158)),(1,(.row [(.int .i64 0),(.str []),(.int .i64 0),(.str []),.nils] 67)),(3,(.grow ((l.map Ap)++([(.agg [(.int .i64 d1.kind),(.str d1.name),(.int .i64 d1.op),(.str d1.evr),(.row 5 d1.args.length (depAt d1.args))])]:List AV)) 67 5)),(4,(.row [(.int .i64 (A7 Bj w1 0)),(.str []),(.int .i64 0),(.str []),(.own 3)] 67)),(5,(.row [(.int .i64 d1.kind),(.str d1.name),(.int .i64 d1.op),(.str d1.evr),(.row 5 d1.args.length (depAt d1.args))] 67))]) (by kernel_rfl) (by exact Pb) (by kernel_rfl) (by kernel_rfl) (by kernel_rfl) (by kernel_rfl) (by kernel_rfl) (Qe t2 w2 (by omega)) (by kernel_rfl) (by kernel_rfl) (by kernel_rfl) ?_;refine Bm 1 2 [] [2,6,100] [] hk0 v0 c0 ?_;refine Hs (decide (w2=[41])) (fun hz8=>?_) (fun hz8=>Ha [] (by exact Fy) (Ll (decide (w2=[41])) hz8) (fun _ _=>show Cp=Cp∧Ce (n+1) t w=none from ⟨rfl,by rw[hq3,Iz,if_neg (by simpa using hz8)]⟩));have hcl:=hz8
      refine K2 (s':=[(2,(.ptr 1 0)),(6,(.ptr 4 0)),(100,(.bool (decide (w2=[41])))),(101,(.tup []))]) (al:=[(.bool (decide (w2=[41])))]) (r:=(.tup [])) (by kernel_rfl) (by exact Fy) (by kernel_rfl) (by kernel_rfl) (Lk (decide (w2=[41])) hz8) (by kernel_rfl) ?_;refine Br (Ab ?_);refine An (Bm 0 0 [] [2,6] [] hk0 v0 c0 ?_);refine Jb 4 4 (y:=⟨[(2,(.ptr 1 0)),(6,(.ptr 4 0))],[(0,(.row [(.str ((Ah t2).2)),(.str ((Ah t2).1))] 158)),(1,(.row [(.int .i64 0),(.str []),(.int .i64 0),(.str []),.nils] 67)),(4,(.row [(.int .i64 (A7 Bj w1 0)),(.str []),(.int .i64 0),(.str []),(.row 5 ((l.map Ap)++([(.agg [(.int .i64 d1.kind),(.str d1.name),(.int .i64 d1.op),(.str d1.evr),(.row 5 d1.args.length (depAt d1.args))])]:List AV)).length (fun ix=>((l.map Ap)++([(.agg [(.int .i64 d1.kind),(.str d1.name),(.int .i64 d1.op),(.str d1.evr),(.row 5 d1.args.length (depAt d1.args))])]:List AV)).getD ix Bn))] 67)),(5,(.row [(.int .i64 d1.kind),(.str d1.name),(.int .i64 d1.op),(.str d1.evr),(.row 5 d1.args.length (depAt d1.args))] 67))],6⟩) (by kernel_rfl) ?_
      refine Av 0 [] [2] [] hk0 (vk 1 102 (a:=(.agg [(.int .i64 (A7 Bj w1 0)),(.str []),(.int .i64 0),(.str []),(.row 5 ((l.map Ap)++([(.agg [(.int .i64 d1.kind),(.str d1.name),(.int .i64 d1.op),(.str d1.evr),(.row 5 d1.args.length (depAt d1.args))])]:List AV)).length (fun ix=>((l.map Ap)++([(.agg [(.int .i64 d1.kind),(.str d1.name),(.int .i64 d1.op),(.str d1.evr),(.row 5 d1.args.length (depAt d1.args))])]:List AV)).getD ix Bn))])) (b:=(.agg [(.int .i64 ((DepT.mk (A7 Bj w1 0) [] 0 [] (l++[d1])).kind)),(.str ((DepT.mk (A7 Bj w1 0) [] 0 [] (l++[d1])).name)),(.int .i64 ((DepT.mk (A7 Bj w1 0) [] 0 [] (l++[d1])).op)),(.str ((DepT.mk (A7 Bj w1 0) [] 0 [] (l++[d1])).evr)),(.row 5 (DepT.mk (A7 Bj w1 0) [] 0 [] (l++[d1])).args.length (depAt (DepT.mk (A7 Bj w1 0) [] 0 [] (l++[d1])).args))])) (Imp.agg (p:=[.int .i64 (A7 Bj w1 0),.str [],.int .i64 0,.str []]) (Y0q l d1))<|v0) c0 ?_;refine Ae ?_
      refine Qv (ch:=Cp) (DepT.mk (A7 Bj w1 0) [] 0 [] (l++[d1]),(Ah t2).2,(Ah t2).1) ?_ wR (al:=[(.agg [(.int .i64 ((DepT.mk (A7 Bj w1 0) [] 0 [] (l++[d1])).kind)),(.str ((DepT.mk (A7 Bj w1 0) [] 0 [] (l++[d1])).name)),(.int .i64 ((DepT.mk (A7 Bj w1 0) [] 0 [] (l++[d1])).op)),(.str ((DepT.mk (A7 Bj w1 0) [] 0 [] (l++[d1])).evr)),(.row 5 (DepT.mk (A7 Bj w1 0) [] 0 [] (l++[d1])).args.length (depAt (DepT.mk (A7 Bj w1 0) [] 0 [] (l++[d1])).args))])]) (by kernel_rfl) ?_ ((by kernel_rfl:C6 1 _=some [(0,(.row [(.str ((Ah t2).2)),(.str ((Ah t2).1))] 158))]).trans ?_)
      ·rw[hq3,Iz,if_pos (by simpa using hcl)]
      ·rfl
      ·rfl
     refine Ch false 4 (lsD 8 [0,1,2,3]) ⟨[(0,(.ptr 0 0)),(2,(.ptr 1 0)),(6,(.ptr 4 0)),(92,(.own 3)),(94,(.agg [(.int .i64 d1.kind),(.str d1.name),(.int .i64 d1.op),(.str d1.evr),(.row 5 d1.args.length (depAt d1.args))]))],[(0,(.row [(.str t2),(.str w2)] 158)),(1,(.row [(.int .i64 0),(.str []),(.int .i64 0),(.str []),.nils] 67)),(3,(.grow (l.map Ap) 67 5)),(4,(.row [(.int .i64 (A7 Bj w1 0)),(.str []),(.int .i64 0),(.str []),(.own 3)] 67))],5⟩ ?_ (fun m2_2=>?_)
     ·refine Db (fuel:=3) 4 [] A1 ?_;refine Ay [0,2,6,92,95] ?_;exact A8 m2_1
     refine C3 (fuel:=6) [] [0,2] [0,2,6,91,93] A1 ?_;refine Ck 1 3 (by kernel_rfl) ?_ ?_
     ·refine A9 (fuel:=5) 1 [] A1 ?_;refine Ay [0,2,6,92,93] ?_;refine Ev (fuel:=4) 3 (by kernel_rfl) ?_;refine Cs (fuel:=4) 3 rfl ?_;refine Ei [0] (al:=[(.ptr 0 0)]) (al':=[(.ptr 0 0)]) (r:=(.agg [(.int .i64 d1.kind),(.str d1.name),(.int .i64 d1.op),(.str d1.evr),(.row 5 d1.args.length (depAt d1.args))])) (r':=(.agg [(.int .i64 d1.kind),(.str d1.name),(.int .i64 d1.op),(.str d1.evr),(.row 5 d1.args.length (depAt d1.args))])) (s':=[(0,(.ptr 0 0)),(2,(.ptr 1 0)),(6,(.ptr 4 0)),(92,(.own 3)),(93,(.ptr 0 0)),(94,(.agg [(.int .i64 d1.kind),(.str d1.name),(.int .i64 d1.op),(.str d1.evr),(.row 5 d1.args.length (depAt d1.args))]))]) (H:=[(0,(.row [(.str ((Ah tt).2)),(.str ((Ah tt).1))] 158))]) (H':=[(0,(.row [(.str t2),(.str w2)] 158))]) (h2:=[(0,(.row [(.str t2),(.str w2)] 158)),(1,(.row [(.int .i64 0),(.str []),(.int .i64 0),(.str []),.nils] 67)),(3,(.grow (l.map Ap) 67 5)),(4,(.row [(.int .i64 (A7 Bj w1 0)),(.str []),(.int .i64 0),(.str []),(.own 3)] 67))]) (by kernel_rfl) (by exact G0) (by kernel_rfl) (by kernel_rfl) (by kernel_rfl) (by kernel_rfl) (by kernel_rfl) ((ih ((Ah tt).2) ((Ah tt).1) (by omega)).yes hz7) (by kernel_rfl) (by kernel_rfl) (by kernel_rfl) ?_;refine Br ⟨rfl,?_⟩
      refine Ay [0,2,6,92,94] ?_;exact A8 m2_2
     ·refine Cs (fuel:=5) 3 rfl ?_;refine Ei [0] (al:=[(.ptr 0 0)]) (al':=[(.ptr 0 0)]) (r:=(.agg [(.int .i64 d1.kind),(.str d1.name),(.int .i64 d1.op),(.str d1.evr),(.row 5 d1.args.length (depAt d1.args))])) (r':=(.agg [(.int .i64 d1.kind),(.str d1.name),(.int .i64 d1.op),(.str d1.evr),(.row 5 d1.args.length (depAt d1.args))])) (s':=[(0,(.ptr 0 0)),(2,(.ptr 1 0)),(6,(.ptr 4 0)),(91,(.ptr 4 4)),(93,(.ptr 0 0)),(94,(.agg [(.int .i64 d1.kind),(.str d1.name),(.int .i64 d1.op),(.str d1.evr),(.row 5 d1.args.length (depAt d1.args))]))]) (H:=[(0,(.row [(.str ((Ah tt).2)),(.str ((Ah tt).1))] 158))]) (H':=[(0,(.row [(.str t2),(.str w2)] 158))]) (h2:=[(0,(.row [(.str t2),(.str w2)] 158)),(1,(.row [(.int .i64 0),(.str []),(.int .i64 0),(.str []),.nils] 67)),(3,(.grow (l.map Ap) 67 5)),(4,(.row [(.int .i64 (A7 Bj w1 0)),(.str []),(.int .i64 0),(.str []),(.own 3)] 67))]) (by kernel_rfl) (by exact G0) (by kernel_rfl) (by kernel_rfl) (by kernel_rfl) (by kernel_rfl) (by kernel_rfl) ((ih ((Ah tt).2) ((Ah tt).1) (by omega)).yes hz7) (by kernel_rfl) (by kernel_rfl) (by kernel_rfl) ?_;refine Br ⟨rfl,?_⟩;refine Ay [0,2,6,91,94] ?_;refine Ck 1 4 (by kernel_rfl) ?_ ?_
      ·refine A9 (fuel:=4) 1 [] A1 ?_;refine Ay [0,2,6,92,94] ?_;exact A8 m2_2
      ·refine A9 (fuel:=4) 4 [] A1 ?_;refine Ay [0,2,6,91,95] ?_;refine Db (fuel:=3) 1 [] A1 ?_;refine Ay [0,2,6,92,95] ?_;exact A8 m2_1
   ·try simp only[Ai] at c4
    have hq3:=hq2.trans (by rw[X82 c4]);refine Ag (Ab ?_);refine An (Bm 1 0 [] [2,6,98] [] hk0 v0 c0 ?_);refine Ei [0] (al:=[(.ptr 0 0)]) (al':=[(.ptr 0 0)]) (r:=(.str ww)) (r':=(.str ww)) (s':=[(2,(.ptr 1 0)),(6,(.ptr 4 0)),(98,(.ptr 0 0)),(99,(.str ww))]) (H:=[(0,(.row [(.str tt),(.str ww)] 158))]) (H':=[(0,(.row [(.str ((Ah tt).2)),(.str ((Ah tt).1))] 158))]) (h2:=[(0,(.row [(.str ((Ah tt).2)),(.str ((Ah tt).1))] 158)),(1,(.row [(.int .i64 0),(.str []),(.int .i64 0),(.str []),.nils] 67)),(3,(.grow (l.map Ap) 67 5)),(4,(.row [(.int .i64 (A7 Bj w1 0)),(.str []),(.int .i64 0),(.str []),(.own 3)] 67))]) (by kernel_rfl) (by exact Pb) (by kernel_rfl) (by kernel_rfl) (by kernel_rfl) (by kernel_rfl) (by kernel_rfl) (Qe tt ww (by omega)) (by kernel_rfl) (by kernel_rfl) (by kernel_rfl) ?_;refine Bm 1 2 [] [2,6,100] [] hk0 v0 c0 ?_;refine Hs (decide (ww=[41])) (fun hz9=>?_) (fun hz9=>Ha [] (by exact Fy) (Ll (decide (ww=[41])) hz9) (fun _ _=>show Cp=Cp∧Ce (n+1) t w=none from ⟨rfl,by rw[hq3,Iz,if_neg (by simpa using hz9)]⟩));have hcl:=hz9
    refine K2 (s':=[(2,(.ptr 1 0)),(6,(.ptr 4 0)),(100,(.bool (decide (ww=[41])))),(101,(.tup []))]) (al:=[(.bool (decide (ww=[41])))]) (r:=(.tup [])) (by kernel_rfl) (by exact Fy) (by kernel_rfl) (by kernel_rfl) (Lk (decide (ww=[41])) hz9) (by kernel_rfl) ?_;refine Br (Ab ?_);refine An (Bm 0 0 [] [2,6] [] hk0 v0 c0 ?_);refine Jb 4 4 (y:=⟨[(2,(.ptr 1 0)),(6,(.ptr 4 0))],[(0,(.row [(.str ((Ah tt).2)),(.str ((Ah tt).1))] 158)),(1,(.row [(.int .i64 0),(.str []),(.int .i64 0),(.str []),.nils] 67)),(4,(.row [(.int .i64 (A7 Bj w1 0)),(.str []),(.int .i64 0),(.str []),(.row 5 (l.map Ap).length (fun ix=>(l.map Ap).getD ix Bn))] 67))],5⟩) (by kernel_rfl) ?_
    refine Av 0 [] [2] [] hk0 (vk 1 102 (a:=(.agg [(.int .i64 (A7 Bj w1 0)),(.str []),(.int .i64 0),(.str []),(.row 5 (l.map Ap).length (fun ix=>(l.map Ap).getD ix Bn))])) (b:=(.agg [(.int .i64 ((DepT.mk (A7 Bj w1 0) [] 0 [] l).kind)),(.str ((DepT.mk (A7 Bj w1 0) [] 0 [] l).name)),(.int .i64 ((DepT.mk (A7 Bj w1 0) [] 0 [] l).op)),(.str ((DepT.mk (A7 Bj w1 0) [] 0 [] l).evr)),(.row 5 (DepT.mk (A7 Bj w1 0) [] 0 [] l).args.length (depAt (DepT.mk (A7 Bj w1 0) [] 0 [] l).args))])) (Imp.agg (p:=[.int .i64 (A7 Bj w1 0),.str [],.int .i64 0,.str []]) ((Imp.list (f:=Ap) (List.length_map Ap)).trans (I3 l)))<|v0) c0 ?_;refine Ae ?_;refine Qv (ch:=Cp) (DepT.mk (A7 Bj w1 0) [] 0 [] l,(Ah tt).2,(Ah tt).1) ?_ wR (al:=[(.agg [(.int .i64 ((DepT.mk (A7 Bj w1 0) [] 0 [] l).kind)),(.str ((DepT.mk (A7 Bj w1 0) [] 0 [] l).name)),(.int .i64 ((DepT.mk (A7 Bj w1 0) [] 0 [] l).op)),(.str ((DepT.mk (A7 Bj w1 0) [] 0 [] l).evr)),(.row 5 (DepT.mk (A7 Bj w1 0) [] 0 [] l).args.length (depAt (DepT.mk (A7 Bj w1 0) [] 0 [] l).args))])]) (by kernel_rfl) ?_ ((by kernel_rfl:C6 1 _=some [(0,(.row [(.str ((Ah tt).2)),(.str ((Ah tt).1))] 158))]).trans ?_)
    ·rw[hq3,Iz,if_pos (by simpa using hcl)]
    ·rfl
    ·rfl
theorem Ul:∀(n:Nat) (t w:List UInt8),t.length+w.length < n→n≤8388608→CallZ Tryz.prog Cp 119 [.ptr 0 0] [(0,.row [.str t,.str w] 158)] 1 (Ce n t w) (fun a=>Ap a.1) (fun a=>[(0,.row [.str a.2.1,.str a.2.2] 158)])
 |0,t,w,h,_=>by omega
 |n+1,t,w,h,k=>X2s n t w h (by omega) fun t w h=>Ul n t w h (by omega)
end Sv
end
section
open Go Go.RowKit
namespace Sv
set_option maxHeartbeats 400000
set_option maxRecDepth 100000
def zeroQ:DepT:=.mk 0 [] 0 [] []
def Kg (d:DepT) (w:List UInt8):DepT × Int:=if w=[] then (if Bw d=0 then (d,0) else (zeroQ,Bw d)) else (zeroQ,50)
def Ba (s:List UInt8):DepT × Int:=match Ce (s.length+2) (Ah s).2 (Ah s).1 with
 |none=>(zeroQ,50)
 |some (d,_,w)=>Kg d w
theorem Ny:Imp (.agg [.int .i64 0,.str [],.int .i64 0,.str [],.nils]) (Ap zeroQ):=Imp.agg (p:=[.int .i64 0,.str [],.int .i64 0,.str []]) (Imp.nil.trans (I3 []))
theorem Q7r {φ:Phi}:VR φ (Ap zeroQ) (.agg #[.int .i64 0,S [],.int .i64 0,S [],.slice none 0 0]):=Ny _ _ (by
 simp only[VR]
 exact⟨_,.cons (by simp only[VR]) (.cons (by simp only[VR]) (.cons (by simp only[VR]) (.cons (by simp only[VR]) (.single (by simp only[VR]))))),rfl⟩)
def Y6 (P:Program) (s:List UInt8):Exit→St→Prop
 |.panic c,y=>c=Cp∧Ba s=(zeroQ,50)∧Bc 0 y.h=some (.row [.int .i64 0,.str [],.int .i64 0,.str [],.nils] 67)∧Bc 1 y.h=some (.row [.int .i64 0] 31)∧Cg 2 y.s=some (.ptr 0 0)∧Cg 3 y.s=some (.ptr 1 0)
 |e,y=>Mk P [.cell 2 67,.cell 3 31] (.tup [Ap (Ba s).1,.int .i64 (Ba s).2]) e y
theorem Z6 {P:Program} {s:List UInt8} {ks:List Nat} {x:St} {h2:AH} (hq:Ba s=(zeroQ,50)) (e:Hl ks [] x.h=some h2) (g0:(Hl ks [] x.h).bind (Bc 0)=some (.row [.int .i64 0,.str [],.int .i64 0,.str [],.nils] 67)) (g1:(Hl ks [] x.h).bind (Bc 1)=some (.row [.int .i64 0] 31))
  (l2:Cg 2 (Jg ks x.s)=some (.ptr 0 0)) (l3:Cg 3 (Jg ks x.s)=some (.ptr 1 0)):Y6 P s (.panic Cp) ⟨Jg ks x.s,h2,x.nx⟩:=by
 rw[e] at g0 g1;exact⟨rfl,hq,g0,g1,l2,l3⟩
theorem Z2 {s:List UInt8} {d:DepT} {t w:List UInt8} (h:Ce (s.length+2) (Ah s).2 (Ah s).1=some (d,t,w)):d.size≤2*s.length:=by
 have h1:=(Jo _ _ _ _ h).2.1;have h2:=D3 s;simp only at h1;omega
attribute [local irreducible] SW SO SWD Bk
set_option maxHeartbeats 1000000 in
set_option maxRecDepth 100000 in
theorem Y3h (s:List UInt8) (hs:s.length≤1048576):FnV Tryz.prog 72 [.str s] (.tup [Ap (Ba s).1,.int .i64 (Ba s).2]):=by
 intro F w vs hF hv;obtain⟨v,rfl,hv1⟩:=hv.single_inv;simp only[VR] at hv1;subst hv1
 have hx:Holds ⟨w,fun k=>k < w.heap.size,fun _ h=>h⟩ ⟨F,fun _=>none,0,fun _ _ e=>by cases e⟩ 28 ⟨Fo 0 [.str s],[],0⟩ (ofF F) (Ee [S s]) w:=by
  refine⟨fun t a e=>?_,⟨⟨rfl,rfl,rfl,Nat.le_refl _,fun _ _=>rfl⟩,hF,fun b o e=>(by cases e),fun b b' o o' k e=>(by cases e),fun b o k e=>(by cases e)⟩,fun b _=>⟨rfl,rfl⟩,fun b o e=>e,fun b o e => .inl e,fun b o e=>(by cases e)⟩;obtain⟨h1,h2,h3⟩:=Kl hv e;rw[Nat.sub_zero] at h2 h3
  have ht:Nat.blt t 28=true:=by simp only[Nat.blt_eq];simp at h3;omega
  simp only[sl,ht,cond_true,Ee];exact h2
 refine calls_of_wp_defers Tryz.func72 rfl ?_;rw[show({ tmps := #[S s]++Array.replicate (Tryz.f72.ntmps - #[S s].size) undef,defers:=[] }:Act)=mk 28 (Ee [S s]) from by rw[Tryz.ntmps72];kernel_rfl];refine Y1f (W_mono (Y2f (K:=fun e y=>e = .normal∧y=⟨[(0,.str s),(2,.ptr 0 0),(3,.ptr 1 0)],[(0,(.row [(.int .i64 0),(.str []),(.int .i64 0),(.str []),.nils] 67)),(1,(.row [(.int .i64 0)] 31))],2⟩) ?_ hx) ?_)
 ·refine An (Av 0 [] [0,2,3] [] hk0 v0 c0 ?_);exact⟨rfl,by kernel_rfl⟩
 rintro e σ1 w1 ⟨y,φ1,hy,rfl,rfl⟩;have a2:=hy.fr 2 (.ptr 0 0) rfl;have a3:=hy.fr 3 (.ptr 1 0) rfl;simp only[VR] at a2 a3;obtain⟨p,κp,ep,a2⟩:=a2;obtain⟨q,κq,eq,a3⟩:=a3;have hf:=hy.fr.put (dst:=some 7) (a:=.raw (.func (.func 117) #[] #[(.pointer (some ⟨p,0,none⟩)),(.pointer (some ⟨q,0,none⟩))])) (s':=[(0,.str s),(2,.ptr 0 0),(3,.ptr 1 0),(7,.raw (.func (.func 117) #[] #[(.pointer (some ⟨p,0,none⟩)),(.pointer (some ⟨q,0,none⟩))]))]) (v:=(.func (.func 117) #[] #[(.pointer (some ⟨p,0,none⟩)),(.pointer (some ⟨q,0,none⟩))])) (by kernel_rfl) (by simp only[VR])
 have hcm:∀b x,(if b < 2 then φ1 b else none)=some x→b < 2:=by
  intro b x e;by_cases hb:b < 2
  ·exact hb
  ·rw[if_neg hb] at e;cases e
 have hy1:Holds ⟨w,fun k=>k < w.heap.size,fun _ h=>h⟩ ⟨F,fun b=>if b < 2 then φ1 b else none,2,hcm⟩ 28 ⟨[(0,.str s),(2,.ptr 0 0),(3,.ptr 1 0)],[(0,(.row [(.int .i64 0),(.str []),(.int .i64 0),(.str []),.nils] 67)),(1,(.row [(.int .i64 0)] 31))],2⟩ φ1 _ w1:=⟨fun t a e=>hf t a (U1 (ts:=[0,2,3]) rfl t a e),hy.rel,hy.dom,hy.old,hy.new,fun b x e=>by
  have e:(if b < 2 then φ1 b else none)=some x:=e;by_cases hb:b < 2
  ·rwa [if_pos hb] at e
  ·rw[if_neg hb] at e;cases e⟩
 refine D.wp_defer (v:=(.func (.func 117) #[] #[(.pointer (some ⟨p,0,none⟩)),(.pointer (some ⟨q,0,none⟩))])) (d:={ target:=.fn (.func 117) #[(.pointer (some ⟨p,0,none⟩)),(.pointer (some ⟨q,0,none⟩))],args := #[] }) rfl (X9e a2 a3) (X9f (by omega)) ?_;refine D.W_any (D.W_mono (Q:=Er _ _ 28 (Y6 Tryz.prog s)) (Y3t hy1 ?_) ?_)
 ·have hF':(⟨F,fun b=>if b < 2 then φ1 b else none,2,hcm⟩:Cx).lo=2:=rfl;have hN:=D3 s;refine J9 ?_;refine K4 (Dd [] [2,3,4] ?_);refine J9 ?_;refine K4 (Bm 1 0 [] [2,3,4,11] [] hk0 v0 c0 ?_);refine Ei [2] (al:=[(.ptr 2 0)]) (al':=[(.ptr 0 0)]) (r:=(.tup [])) (r':=(.tup [])) (s':=[(2,(.ptr 0 0)),(3,(.ptr 1 0)),(4,(.ptr 2 0)),(11,(.ptr 2 0)),(12,(.tup []))]) (H:=[(0,(.row [(.str s),(.str [])] 158))]) (H':=[(0,(.row [(.str ((Ah s).2)),(.str ((Ah s).1))] 158))]) (h2:=[(0,(.row [(.int .i64 0),(.str []),(.int .i64 0),(.str []),.nils] 67)),(1,(.row [(.int .i64 0)] 31)),(2,(.row [(.str ((Ah s).2)),(.str ((Ah s).1))] 158))]) (by kernel_rfl) (by exact Nk) (by kernel_rfl) (by kernel_rfl) (by kernel_rfl) (by kernel_rfl) (by kernel_rfl) (Oi s [] (by omega)) (by kernel_rfl) (by kernel_rfl) (by kernel_rfl) ?_;refine Br (J9 ?_);refine K4 (Bm 1 0 [] [2,3,4,13] [] hk0 v0 c0 ?_);refine Re (Ce (s.length+2) (Ah s).2 (Ah s).1) (fun hz1=>Ha [2] (by exact G0) ((Ul (s.length+2) (Ah s).2 (Ah s).1 (by omega) (by omega)).no hz1) (fun h2 e2=>Z6 (P:=Tryz.prog) (by unfold Ba;rw[hz1]) e2 (by kernel_rfl) (by kernel_rfl) (by kernel_rfl) (by kernel_rfl))) (fun⟨d0,t1,w1⟩ hz1=>?_)
  have hsz:=Z2 hz1
  have hpq:Ba s=Kg d0 w1:=by unfold Ba;rw[hz1]
  refine Ei [2] (al:=[(.ptr 2 0)]) (al':=[(.ptr 0 0)]) (r:=(.agg [(.int .i64 d0.kind),(.str d0.name),(.int .i64 d0.op),(.str d0.evr),(.row 5 d0.args.length (depAt d0.args))])) (r':=(.agg [(.int .i64 d0.kind),(.str d0.name),(.int .i64 d0.op),(.str d0.evr),(.row 5 d0.args.length (depAt d0.args))])) (s':=[(2,(.ptr 0 0)),(3,(.ptr 1 0)),(4,(.ptr 2 0)),(13,(.ptr 2 0)),(14,(.agg [(.int .i64 d0.kind),(.str d0.name),(.int .i64 d0.op),(.str d0.evr),(.row 5 d0.args.length (depAt d0.args))]))]) (H:=[(0,(.row [(.str ((Ah s).2)),(.str ((Ah s).1))] 158))]) (H':=[(0,(.row [(.str t1),(.str w1)] 158))]) (h2:=[(0,(.row [(.int .i64 0),(.str []),(.int .i64 0),(.str []),.nils] 67)),(1,(.row [(.int .i64 0)] 31)),(2,(.row [(.str t1),(.str w1)] 158))]) (by kernel_rfl) (by exact G0) (by kernel_rfl) (by kernel_rfl) (by kernel_rfl) (by kernel_rfl) (by kernel_rfl) ((Ul (s.length+2) (Ah s).2 (Ah s).1 (by omega) (by omega)).yes hz1) (by kernel_rfl) (by kernel_rfl) (by kernel_rfl) ?_;refine Av 2 [] [2,3,4,5] [] hk0 v0 c0 ?_;refine J9 ?_;refine K4 (Bm 5 0 [] [2,3,5,19] [(0,5)] hk0 v0 c0 ?_)
  refine Hs (decide (w1=[])) (fun hz2=>?_) (fun hz2=>Ha [] (by exact Fy) (Ll (decide (w1=[])) hz2) (fun h2 e2=>Z6 (P:=Tryz.prog) (by rw[hpq,Kg,if_neg (by simpa using hz2)]) e2 (by kernel_rfl) (by kernel_rfl) (by kernel_rfl) (by kernel_rfl)))
  have hpw:w1=[]:=by simpa using hz2
  refine K2 (s':=[(2,(.ptr 0 0)),(3,(.ptr 1 0)),(5,(.fp (.agg [(.int .i64 d0.kind),(.str d0.name),(.int .i64 d0.op),(.str d0.evr),(.row 5 d0.args.length (depAt d0.args))]))),(19,(.bool (decide (w1=[])))),(20,(.tup []))]) (al:=[(.bool (decide (w1=[])))]) (r:=(.tup [])) (by kernel_rfl) (by exact Fy) (by kernel_rfl) (by kernel_rfl) (Lk (decide (w1=[])) hz2) (by kernel_rfl) ?_;refine Br ?_;refine J9 (J9 ?_);refine K4 (Av 0 [] [2,3,5,6] [] (hk 1 Pd (Tb d0 (by omega))<|hk0) v0 c0 ?_);refine J9 ?_;refine K4 (Dd [] [2,3,5,6,24] ?_);refine Y3s (p:=(Bw d0)=0) (by kernel_rfl) (fun c1=>?_) (fun c1=>?_)
  ·refine J9 ?_;refine K4 (Dd [] [2,3] ?_);refine Q7m (RK wR [(.agg [(.int .i64 0),(.str []),(.int .i64 0),(.str []),.nils]),(.int .i64 (Bw d0))] ?_);rw[show Ba s=(zeroQ,Bw d0) from by rw[hpq,Kg,if_pos hpw,if_neg (by simpa using c1)]];exact(Imp.tups (ImpL.cons Ny (ImpL.cons Imp.refl ImpL.nil))).same
  ·refine Y3r (J9 ?_);refine K4 (Dd [] [2,3] ?_);refine Q7m (RK wR [(.agg [(.int .i64 d0.kind),(.str d0.name),(.int .i64 d0.op),(.str d0.evr),(.row 5 d0.args.length (depAt d0.args))]),(.int .i64 0)] ?_);rw[show Ba s=(d0,0) from by rw[hpq,Kg,if_pos hpw,if_pos (by simpa using c1)]];exact Same.of_eq rfl
 ·rintro e σ2 w2 ⟨y,φ2,hy2,he⟩
  have fin:(e = .ret∨e = .normal)→Mk Tryz.prog [.cell 2 67,.cell 3 31] (.tup [Ap (Ba s).1,.int .i64 (Ba s).2]) e y→Leaves Tryz.prog Tryz.f72 (D.mk [{ target:=.fn (.func 117) #[(.pointer (some ⟨p,0,none⟩)),(.pointer (some ⟨q,0,none⟩))],args := #[] }] 28 σ2).tmps (Ret fun v w''=>Below w.heap.size w w''∧∃F',(∀b o,F b=some o→F' b=some o)∧Fro F' w''∧(∀b o,F' b=some o→F b=some o∨w.heap.size≤b)∧VR (ofF F') (.tup [Ap (Ba s).1,.int .i64 (Ba s).2]) v) [{ target:=.fn (.func 117) #[(.pointer (some ⟨p,0,none⟩)),(.pointer (some ⟨q,0,none⟩))],args := #[] }] .returning w2:=by
   rintro _ ⟨_,al',rl,h',k1,k2,k3⟩;refine leaves_cons (f:=117) (args := #[(.pointer (some ⟨p,0,none⟩)),(.pointer (some ⟨q,0,none⟩))]) (by simp) (by simp[go_sem]) ?_;refine(X90 _ _ _).mono ?_;rintro e u' w'' ⟨rfl,rfl,hb⟩;have hrel:=hy2.rel.go (Phi.le_refl φ2) hb (fun b o e=>(hb.block b (Dh (hy2.rel.fro b o e))).trans (hy2.rel.fro b o e)) (fun b o e => .inl e);obtain⟨vs',hvs,hrun⟩:=Ke (P:=Tryz.prog) hy2.fr hrel k1;obtain⟨F',f1,f2,f3,f4⟩:=frzVl_ok k2 _ φ2 w'' _ hrel hvs;exact⟨_,Lb (a:=mk 28 σ2) rfl hrun,_,rfl,⟨hrel.below.os,hrel.below.tape,hrel.below.output,hrel.below.size,hrel.below.block⟩,F',fun b o q=>f1 b o (hy2.old b o q),f3.fro,fun b o q=>((f2 b o q).elim (hy2.new b o) .inr).imp id Nat.le_of_not_lt,k3 _ _ (Ms f4)⟩
  cases e with
  |normal=>exact fin (.inr rfl) he
  |ret=>exact fin (.inl rfl) he
  |panic c =>
   obtain⟨rfl,hpq,g0,g1,l2,l3⟩:=he;obtain⟨x0,κ0,vs0,e0,m0,l0⟩:=hy2.rel.obj 0 _ g0;obtain⟨x1,κ1,vs1,e1,m1,l1⟩:=hy2.rel.obj 1 _ g1;have b0:=hy2.base 0 _ ((if_pos (by omega):(if 0 < 2 then φ1 0 else none)=φ1 0).trans ep);have b1:=hy2.base 1 _ ((if_pos (by omega):(if 1 < 2 then φ1 1 else none)=φ1 1).trans eq);rw[b0] at e0;cases e0;rw[b1] at e1;cases e1;have s2:=hy2.fr 2 _ l2;have s3:=hy2.fr 3 _ l3;simp only[VR] at s2 s3;obtain⟨p',_,ep',s2⟩:=s2;obtain⟨q',_,eq',s3⟩:=s3;rw[b0] at ep';cases ep';rw[b1] at eq';cases eq'
   have i0:img φ2 0 (.row [.int .i64 0,.str [],.int .i64 0,.str [],.nils] 67) p:=by simp only[img,b0];rfl
   have i1:img φ2 1 (.row [.int .i64 0] 31) q:=by simp only[img,b1];rfl
   have o0:=(hy2.rel.gf 0 _ p g0 i0).1;have o1:=(hy2.rel.gf 1 _ q g1 i1).1
   have hpq2:p≠q:=fun e=>by subst e;have:=hy2.rel.sep 0 1 _ _ p g0 g1 i0 i1;omega
   obtain⟨y0,r0,q0,_,l0⟩:=l0.cons_inv;obtain⟨y1,r1,q1,_,l0⟩:=l0.cons_inv;obtain⟨y2,r2,q2,_,l0⟩:=l0.cons_inv;obtain⟨y3,r3,q3,_,l0⟩:=l0.cons_inv;obtain⟨y4,r4,q4,_,l0⟩:=l0.cons_inv;obtain⟨z0,t0,u0,_,l1⟩:=l1.cons_inv;have:=l0.nil_inv;subst this;have:=l1.nil_inv;subst this
   have v0:vs0 = #[y0,y1,y2,y3,y4]:=by apply Array.ext';rw[q0,q1,q2,q3,q4]
   have v1:vs1 = #[z0]:=by apply Array.ext';rw[u0]
   rw[v0] at m0;rw[v1] at m1;refine leaves_cons (f:=117) (args := #[(.pointer (some ⟨p,0,none⟩)),(.pointer (some ⟨q,0,none⟩))]) (by simp) (by simp[go_sem]) ?_;refine(X9z m0 m1 hpq2).mono ?_;rintro e u' w'' ⟨rfl,rfl,hh1,hh2,hh3⟩;have hb3:=hh3 w.heap.size (Nat.le_of_not_lt o0) (Nat.le_of_not_lt o1);have hbel:Below w.heap.size w w'':=Below.trans ⟨hy2.rel.below.os,hy2.rel.below.tape,hy2.rel.below.output,hy2.rel.below.size,hy2.rel.below.block⟩ hb3;refine D.leaves_cc rfl s2 Tryz.underlying67 rfl (fun _=>by kernel_rfl) hh1 s3 Tryz.underlying31 rfl hh2 ⟨_,rfl,hbel,F,fun _ _ e=>e,fun b o e=>(hbel.block b (Dh (hF b o e))).trans (hF b o e),fun _ _ e => .inl e,?_⟩;rw[hpq];simp only[VR];exact⟨_,.cons Q7r (.single (by simp only[VR])),rfl⟩
  |_=>obtain⟨he,_⟩:=he;rcases he with he|he<;>cases he
end Sv
end
section
open Go Go.RowKit
namespace Sv
set_option maxHeartbeats 400000 in
set_option maxRecDepth 100000 in
theorem Y3e (k op:Int) (nm ev:List UInt8) (args:List DepT) (sv:Value) (css:List (List Value)) (w:World) (hr:RowIs w sv args.length 5 css.flatten) (ha:ArgsC w args css) (hs:argsSize args+1+nm.length+ev.length≤4194304) (hchk:∀w1,Below w.heap.size w w1→Calls Tryz.prog 121 #[.agg #[.int .i64 k,S nm,.int .i64 op,S ev,sv]] w1 (Ret fun v w'=>v = .int .i64 (Bw (DepT.mk k nm op ev args))∧Below w1.heap.size w1 w')) :
  Calls Tryz.prog 73 #[(.agg #[(.int .i64 (k)),(S (nm)),(.int .i64 (op)),(S (ev)),(sv)])] w (Ret fun v w'=>v = .tuple #[S (Ex (DepT.mk k nm op ev args)).1,.int .i64 (Ex (DepT.mk k nm op ev args)).2]∧Below w.heap.size w w'):=by
 have hd0:DepC w (DepT.mk k nm op ev args) [.int .i64 k,S nm,.int .i64 op,S ev,sv]:=X9d hr ha
 have hz0:(DepT.mk k nm op ev args).size≤4194304:=by unfold DepT.size;omega
 refine D7 Tryz.func73 rfl Tryz.ntmps73 ?_;refine W_seq (W_reg ?_);refine Wv (v:=(.agg #[(.int .i64 (k)),(S (nm)),(.int .i64 (op)),(S (ev)),(sv)])) rfl rfl (fun w1 n1=>?_);have e1:w1.heap[w.heap.size]? = some (.cells #[(.int .i64 (k)),(S (nm)),(.int .i64 (op)),(S (ev)),(sv)] 67 (0,0)):=n1.here;have z1:=n1.size;refine A0 (v:=(S ([]))) rfl rfl ?_;refine A0 (v:=(.int .i64 (0))) rfl rfl ?_;refine Bi ?_;refine W_seq (W_seq ?_);refine W_reg (L2 (b:=w.heap.size) (o:=0) (m:=5) (c := #[(.int .i64 (k)),(S (nm)),(.int .i64 (op)),(S (ev)),(sv)]) rfl rfl Tryz.underlying67 rfl (fun _=>by kernel_rfl) e1 (by simp) ?_);refine Hw 6 (v':=(.agg #[(.int .i64 (k)),(S (nm)),(.int .i64 (op)),(S (ev)),(sv)])) rfl rfl ?_;refine C2 rfl (by exact Pd) (hchk _ (n1.below (Below.refl w.heap.size w) (Below.refl w.heap.size w).size)) ?_;rintro _ wk ⟨rfl,bk⟩;have z_wk:=bk.size;refine A0 (v:=(.int .i64 (Bw (DepT.mk k nm op ev args)))) rfl rfl ?_;refine Bi (W_seq ?_);refine W_reg (A0 (v:=(.int .i64 (Bw (DepT.mk k nm op ev args)))) rfl rfl ?_);refine A0 (v:=(.bool (!decide ((Bw (DepT.mk k nm op ev args))=0)))) rfl rfl ?_;refine Bi ?_
 refine W_cond (t:=!decide ((Bw (DepT.mk k nm op ev args))=0)) rfl (fun c1=>?_) (fun c1=>?_)
 ·refine W_seq ?_;refine W_reg (A0 (v:=(.int .i64 (Bw (DepT.mk k nm op ev args)))) rfl rfl ?_);refine A0 (v:=(S ([]))) rfl rfl ?_;refine A0 (v:=(.int .i64 (Bw (DepT.mk k nm op ev args)))) rfl rfl ?_;refine Bi (W_ret ?_);refine Wh rfl (v0:=(S ([]))) (v1:=(.int .i64 (Bw (DepT.mk k nm op ev args)))) rfl rfl ?_
  have hbel:=(Da (n1.below (Below.refl w.heap.size w) (Below.refl w.heap.size w).size) bk)
  exact⟨by unfold Ex;rw[if_neg (by simpa using c1)],hbel⟩
 ·refine W_skip ?_;refine W_seq (W_reg ?_);refine Pq (v:=(.agg #[(.pointer none),(.slice none 0 0)])) rfl (fun _=>by kernel_rfl) (fun w2 n2=>?_);have e2:w2.heap[wk.heap.size]? = some (.cells #[(.pointer none),(.slice none 0 0)] 114 (0,0)):=n2.here;have z2:=n2.size;refine Bi ?_;refine W_seq (W_reg ?_);have hfo:B2 (DepT.mk k nm op ev args)=true:=Nm (by simpa using c1);refine L2 (b:=w.heap.size) (o:=0) (m:=5) (c := #[(.int .i64 (k)),(S (nm)),(.int .i64 (op)),(S (ev)),(sv)]) rfl rfl Tryz.underlying67 rfl (fun _=>by kernel_rfl) (n2.keep (Dz bk e1)) (by simp) ?_;refine Hw 11 (v':=(.agg #[(.int .i64 (k)),(S (nm)),(.int .i64 (op)),(S (ev)),(sv)])) rfl rfl ?_;refine C2 rfl (by exact Pc) (X13 (DepT.mk k nm op ev args) w _ _ _ [] hd0 (n2.below (Da (n1.below (Below.refl w.heap.size w) (Below.refl w.heap.size w).size) bk) (Da (n1.below (Below.refl w.heap.size w) (Below.refl w.heap.size w).size) bk).size) (by omega) (Bld.fresh e2) hfo hz0 (by simp only[List.length_nil];omega)) ?_;rintro _ wp ⟨hp,kp⟩;have zp:=kp.size;have z_wp:=kp.size;refine Bi (W_seq ?_);refine W_reg (C2 rfl (by exact X6n) (Q84 hp) ?_);rintro _ wt ⟨rfl,kt⟩;have zt:=kt.size;have z_wt:=kt.size
  refine A0 (v:=(S (Cu (DepT.mk k nm op ev args)))) rfl rfl ?_;refine A0 (v:=(.int .i64 (0))) rfl rfl ?_;refine Bi (W_ret ?_);refine Wh rfl (v0:=(S (Cu (DepT.mk k nm op ev args)))) (v1:=(.int .i64 (0))) rfl rfl ?_
  have hbel:=(Fi (Fi (n2.below (Da (n1.below (Below.refl w.heap.size w) (Below.refl w.heap.size w).size) bk) (Da (n1.below (Below.refl w.heap.size w) (Below.refl w.heap.size w).size) bk).size) kp (by omega)) kt (by omega))
  exact⟨by unfold Ex;rw[if_pos (by simpa using c1)],hbel⟩
theorem Y3f (d:DepT) (hs:d.size≤4194304):FnV Tryz.prog 73 [Ap d] (.tup [.str (Ex d).1,.int .i64 (Ex d).2]):=by
 intro F w vs hF hv;obtain⟨v,rfl,h1⟩:=hv.single_inv;obtain⟨cs,rfl,hd⟩:=X9c hF d v h1
 have hchk:∀w1,Below w.heap.size w w1→Calls Tryz.prog 121 #[.agg cs.toArray] w1 (Ret fun v w'=>v = .int .i64 (Bw d)∧Below w1.heap.size w1 w'):=fun w1 hb =>
  ((Tb d hs) F w1 [.agg cs.toArray] (fun b o e=>(hb.block b (Dh (hF b o e))).trans (hF b o e)) (.single h1)).mono (by
   rintro e w' ⟨v,he,hb',F',_,_,_,hr⟩;simp only[VR] at hr;subst hr
   exact⟨_,he,rfl,hb'⟩)
 have hc:Calls Tryz.prog 73 #[.agg cs.toArray] w (Ret fun v w'=>v = .tuple #[S (Ex d).1,.int .i64 (Ex d).2]∧Below w.heap.size w w'):=by
  cases d with
  |mk k nm op ev args =>
   unfold DepC at hd;obtain⟨sv,css,rfl,hr,ha⟩:=hd;unfold DepT.size at hs;exact Y3e k op nm ev args sv css w hr ha (by omega) hchk
 refine hc.mono ?_;rintro e w' ⟨v,he,rfl,hb⟩;exact⟨_,he,hb,F,fun _ _ e=>e,fun b o e=>(hb.block b (Dh (hF b o e))).trans (hF b o e),fun _ _ e => .inl e,by simp only[VR];exact⟨[_,_],.cons (by simp only[VR]) (.cons (by simp only[VR]) .nil),rfl⟩⟩
end Sv
end
section
open Go Go.RowKit
namespace Sv
attribute [local irreducible] SW SO Bk
set_option maxHeartbeats 1000000
set_option maxRecDepth 100000
theorem X8h:Ak Tryz.prog 133:=Ao Tryz.func133 (by kernel_rfl) rfl
theorem X6g:Ak Tryz.prog 88:=Ao Tryz.func88 (by kernel_rfl) rfl
theorem Q4r:Ak Tryz.prog 134:=Ao Tryz.func134 (by kernel_rfl) rfl
theorem Kq:Ak Tryz.prog 90:=Ao Tryz.func90 (by kernel_rfl) rfl
theorem Vq:Ak Tryz.prog 84:=Ao Tryz.func84 (by kernel_rfl) rfl
theorem Ks:Ak Tryz.prog 36:=Ao Tryz.func36 (by kernel_rfl) rfl
theorem Ls:Ak Tryz.prog 23:=Ao Tryz.func23 (by kernel_rfl) rfl
theorem O9:Ak Tryz.prog 86:=Ao Tryz.func86 (by kernel_rfl) rfl
theorem O8:Ak Tryz.prog 91:=Ao Tryz.func91 (by kernel_rfl) rfl
theorem Pd:Ak Tryz.prog 121:=Ao Tryz.func121 (by kernel_rfl) rfl
theorem Sb:Ak Tryz.prog 61:=Ao Tryz.func61 (by kernel_rfl) rfl
theorem X6h:Ak Tryz.prog 87:=Ao Tryz.func87 (by kernel_rfl) rfl
theorem X7b:Ak Tryz.prog 40:=Ao Tryz.func40 (by kernel_rfl) rfl
theorem X6k:Ak Tryz.prog 81:=Ao Tryz.func81 (by kernel_rfl) rfl
theorem X6j:Ak Tryz.prog 82:=Ao Tryz.func82 (by kernel_rfl) rfl
theorem Q3r:Ak Tryz.prog 83:=Ao Tryz.func83 (by kernel_rfl) rfl
theorem X6i:Ak Tryz.prog 85:=Ao Tryz.func85 (by kernel_rfl) rfl
theorem X6f:Ak Tryz.prog 89:=Ao Tryz.func89 (by kernel_rfl) rfl
theorem X6d:Ak Tryz.prog 92:=Ao Tryz.func92 (by kernel_rfl) rfl
theorem X6c:Ak Tryz.prog 93:=Ao Tryz.func93 (by kernel_rfl) rfl
theorem X8e:Ak Tryz.prog 138:=Ao Tryz.func138 (by kernel_rfl) rfl
theorem X6b:Ak Tryz.prog 94:=Ao Tryz.func94 (by kernel_rfl) rfl
theorem X6a:Ak Tryz.prog 95:=Ao Tryz.func95 (by kernel_rfl) rfl
theorem X7a:Ak Tryz.prog 41:=Ao Tryz.func41 (by kernel_rfl) rfl
theorem Q85 (l:List (List UInt8)) (a:AV) (p:(List UInt8)→Bool) (hl:l.length≤4611686018427387904) (ha:∀i,i < l.length→FunV Tryz.prog a [(.str (nth l i))] (.bool (p (nth l i)))) :
  FnV Tryz.prog 133 [(B3 l),(.clo a)] (.int .i64 (E2 p l)):=by
 refine A3 [.tmp 4] Tryz.func133 rfl Tryz.ntmps133 rfl rfl (fun B F hF=>?_);refine Aa [] [0,1] ?_;refine Ab (Aa [] [0,1,7,8] ?_);refine Az (Bx (fun g y=>∃(i:Nat),i≤l.length∧(∀j,j < i→p (nth l j)=false)∧y=⟨[(0,(B3 l)),(1,(.clo a)),(7,(.int .i64 ((l.length:Int)))),(8,(.int .i64 ((i:Int))))],[],0⟩∧g=l.length-i) [0,1,7,8] 0 _ (by omega) ⟨0,(by omega),(by exact fun j hj=>by omega),(by kernel_rfl),rfl⟩ ?_);rintro g1 y1 ⟨i,f1_1,f1_2,rfl,rfl⟩;refine Aa [] [0,1,7,8,9] ?_;refine Ab ?_;refine Ax (p:=(i:Int) < (l.length:Int)) (by kernel_rfl) (fun c1=>?_) (fun c1=>?_)
 ·refine Ag (Ab ?_);refine Az (Aa [] [0,1,5,7,8] ?_);refine Ab ?_;refine An (Bm 5 0 [] [0,1,5,7,8,11,15] [] hk0 v0 (cc 3 (p:=(0≤(i:Int)∧i < l.length)) (by omega)<|c0) ?_);refine Gn (s':=[(0,(B3 l)),(1,(.clo a)),(5,(.int .i64 ((i:Int)))),(7,(.int .i64 ((l.length:Int)))),(8,(.int .i64 ((i:Int)))),(11,(.clo a)),(15,(.str (nth l i))),(16,(.bool (p (nth l i))))]) (a:=(.clo a)) (al:=[(.str (nth l i))]) (r:=(.bool (p (nth l i)))) (by kernel_rfl) (by kernel_rfl) (by kernel_rfl) (by kernel_rfl) (by kernel_rfl) ((ha i (by omega)).clo) (by kernel_rfl) ?_;refine Br ?_;refine A5 (q:=p (nth l i)) (by kernel_rfl) (fun c2=>?_) (fun c2=>?_)
  ·try simp only[Ai] at c2
   refine Aa [] [4] ?_;refine Ae (RK wR [(.int .i64 ((i:Int)))] ?_);exact Same.of_eq (by rw[M7 (by omega) f1_2 (by simp_all)];rfl)
  ·try simp only[Ai] at c2
   refine Ag ?_;refine An (Av 0 [] [0,1,7,8] [] hk0 v0 (cc 0 (p:=(-9223372036854775808≤(i:Int)+1∧(i:Int)+1≤9223372036854775807)) (by omega)<|c0) ?_);refine⟨by kernel_rfl,_,?_,i+1,?_,?_,(by kernel_rfl),rfl⟩
   ·omega
   ·omega
   ·intro j hj;by_cases h:j=i
    ·subst h;simp_all
    ·exact f1_2 j (by omega)
 ·refine Bp (Aa [] [4] ?_);refine Ae (RK wR [(.int .i64 (-1))] ?_);exact Same.of_eq (by rw[M6 (fun j hj=>f1_2 j (by omega))];rfl)
theorem Q86 (l:List (List UInt8)) (a:AV) (p:(List UInt8)→Bool) (hl:l.length≤4611686018427387904) (ha:∀i,i < l.length→FunV Tryz.prog a [(.str (nth l i))] (.bool (p (nth l i)))) :
  FnV Tryz.prog 88 [(B3 l),(.clo a)] (.bool (l.any p)):=by
 refine A3 [.tmp 4] Tryz.func88 rfl Tryz.ntmps88 rfl rfl (fun B F hF=>?_);refine Aa [] [0,1] ?_;refine Ad [] [4] [] (hk 2 X8h (Q85 l a p hl ha)<|hk0) v0 c0 ?_;refine Ae (RK wR [(.bool (decide (0≤(E2 p l))))] ?_);exact Same.of_eq (by simp only[Af];rw[M8])
def G2 (i:Nat) (d:DepT):Bool:=decide (Bw d=0)&&((!(i == 0||i == 4))||decide (d.kind=1))&&((!(i == 0))||decide (d.op=0)||decide (d.op=2))
def D4 (i:Nat) (l:List DepT):Bool:=decide (l.length≤16)&&l.all (G2 i)
def Gl (p:PkgT):Bool:=D4 0 p.provides&&D4 1 p.requires&&D4 2 p.pre&&D4 3 p.conflicts&&D4 4 p.obsoletes&&D4 5 p.recommends&&D4 6 p.supplements
theorem all_nth {α:Type} [Inhabited α] {p:α→Bool} {l:List α}:l.all p=true↔∀j,j < l.length→p (nth l j)=true:=by
 constructor
 ·intro h j hj;rw[show nth l j=l[j] by simp[nth,hj]];exact List.all_eq_true.1 h _ (List.getElem_mem hj)
 ·intro h;refine List.all_eq_true.2 fun x hx=>?_;obtain⟨j,hj,rfl⟩:=List.getElem_of_mem hx;have:=h j hj;rwa [show nth l j=l[j] by simp[nth,hj]] at this
theorem Q1r {i:Nat} {l:List DepT} {k:Nat} (h:l.length≤16) (hk:l.length≤k) (h2:∀j,j < k→G2 i (nth l j)=true):D4 i l=true:=by
 unfold D4;rw[all_nth.2 fun j hj=>h2 j (by omega),decide_eq_true h];rfl
def PkgT.list (p:PkgT):Nat→List DepT
 |0=>p.provides
 |1=>p.requires
 |2=>p.pre
 |3=>p.conflicts
 |4=>p.obsoletes
 |5=>p.recommends
 |_=>p.supplements
theorem Q42 {p:PkgT} (i:Nat) (hi:i < 7) (h:D4 i (PkgT.list p i)=false):Gl p=false:=by
 have:i=0∨i=1∨i=2∨i=3∨i=4∨i=5∨i=6:=by omega
 rcases this with rfl|rfl|rfl|rfl|rfl|rfl|rfl<;>(unfold Gl;simp only[PkgT.list] at h;simp[h])
theorem Q43 {p:PkgT} (i:Nat) (hi:i < 7) (h:16 < (PkgT.list p i).length):Gl p=false:=Q42 i hi (by unfold D4;rw[decide_eq_false (by omega)];rfl)
theorem Si {p:PkgT} (i:Nat) {j:Nat} (hi:i < 7) (hj:j < (PkgT.list p i).length) (h:G2 i (nth (PkgT.list p i) j)=false):Gl p=false:=Q42 i hi (by
 unfold D4
 have:(PkgT.list p i).all (G2 i)=false:=by
  cases hq:(PkgT.list p i).all (G2 i) with
  |false=>rfl
  |true=>rw[all_nth.1 hq j hj] at h;cases h
 rw[this,Bool.and_false])
theorem X85 {p:PkgT} (h0:D4 0 p.provides=true) (h1:D4 1 p.requires=true) (h2:D4 2 p.pre=true) (h3:D4 3 p.conflicts=true) (h4:D4 4 p.obsoletes=true) (h5:D4 5 p.recommends=true) (h6:D4 6 p.supplements=true):Gl p=true:=by
 unfold Gl;rw[h0,h1,h2,h3,h4,h5,h6];rfl
theorem Qm {i:Nat} (h:i < 7):i=0∨i=1∨i=2∨i=3∨i=4∨i=5∨i=6:=by omega
theorem Q44 {p:PkgT} (h:∀j,j < 7→D4 j (PkgT.list p j)=true):Gl p=true:=X85 (h 0 (by omega)) (h 1 (by omega)) (h 2 (by omega)) (h 3 (by omega)) (h 4 (by omega)) (h 5 (by omega)) (h 6 (by omega))
theorem Q1o {p:PkgT} (h:p.depSize≤4194304) {i k:Nat} (hi:i < 7) (hk:k < (PkgT.list p i).length):(nth (PkgT.list p i) k).size≤4194304:=by
 have h1:=I8 hk;unfold PkgT.depSize at h;rcases Qm hi with rfl|rfl|rfl|rfl|rfl|rfl|rfl<;>(simp only[PkgT.list] at h1 ⊢;omega)
theorem Q1p {p:PkgT} (h:p.depSize≤4194304) {i:Nat} (hi:i < 7):(PkgT.list p i).length≤4194304:=by
 unfold PkgT.depSize at h;have h0:=Et p.provides;have h1:=Et p.requires;have h2:=Et p.pre;have h3:=Et p.conflicts;have h4:=Et p.obsoletes;have h5:=Et p.recommends;have h6:=Et p.supplements;rcases Qm hi with rfl|rfl|rfl|rfl|rfl|rfl|rfl<;>(simp only[PkgT.list];omega)
theorem X4g (p:PkgT) :
  FnV Tryz.prog 67 [(.fp (Ar p))] (.row 1 7 (fun i => .fp (Aj 5 Ap (PkgT.list p i)))):=by
 refine A3 [.tmp 2] Tryz.func67 rfl Tryz.ntmps67 rfl rfl (fun B F hF=>?_);refine Aa [] [0] ?_;refine Co [] [2] [] hk0 v0 c0 ?_;refine Ae (RK wR [(.row 1 7 (fun ix=>(F3 1 7 [(.fp (Aj 5 Ap p.provides)),(.fp (Aj 5 Ap p.requires)),(.fp (Aj 5 Ap p.pre)),(.fp (Aj 5 Ap p.conflicts)),(.fp (Aj 5 Ap p.obsoletes)),(.fp (Aj 5 Ap p.recommends)),(.fp (Aj 5 Ap p.supplements))]).getD ix Bn))] ?_);simp only[Af];exact(Imp.row fun i hi=>Imp.of_eq (by rcases Qm hi with rfl|rfl|rfl|rfl|rfl|rfl|rfl<;>rfl)).same
theorem X00 (p:PkgT) :
  FnV Tryz.prog 138 [(Ar p)] (.row 1 7 (fun i=>Aj 5 Ap (PkgT.list p i))):=by
 refine A3 [.tmp 2] Tryz.func138 rfl Tryz.ntmps138 rfl rfl (fun B F hF=>?_);refine Ad [] [1] [(1,1)] hk0 v0 c0 ?_;refine Aa [] [2] ?_;refine Ae (RK wR [(.row 1 7 (fun ix=>(F3 1 7 [(Aj 5 Ap p.provides),(Aj 5 Ap p.requires),(Aj 5 Ap p.pre),(Aj 5 Ap p.conflicts),(Aj 5 Ap p.obsoletes),(Aj 5 Ap p.recommends),(Aj 5 Ap p.supplements)]).getD ix Bn))] ?_);simp only[Af];exact(Imp.row fun i hi=>Imp.of_eq (by rcases Qm hi with rfl|rfl|rfl|rfl|rfl|rfl|rfl<;>rfl)).same
theorem X84 (p:PkgT) (hs:p.depSize≤4194304) :
  FnV Tryz.prog 87 [(Ar p)] (.bool (Gl p)):=by
 refine A3 [.tmp 2] Tryz.func87 rfl Tryz.ntmps87 rfl rfl (fun B F hF=>?_);refine Ad [] [1] [(1,1)] hk0 v0 c0 ?_;refine Ab (Ad [] [8,9,10] [] (hk 0 Q3v (X4g p)<|hk0) v0 c0 ?_);refine Az (Bx (fun g y=>∃(i:Nat),i≤7∧(∀j,j < i→D4 j (PkgT.list p j)=true)∧y=⟨[(8,(.row 1 7 (fun i => .fp (Aj 5 Ap (PkgT.list p i))))),(9,(.int .i64 7)),(10,(.int .i64 ((i:Int))))],[],1⟩∧g=7-i) [8,9,10] 1 _ (by omega) ⟨0,(by omega),(by exact fun j hj=>by omega),(by kernel_rfl),rfl⟩ ?_);rintro g1 y1 ⟨i,f1_1,f1_2,rfl,rfl⟩;refine Aa [] [8,9,10,11] ?_;refine Ab ?_;refine Ax (p:=(i:Int) < 7) (by kernel_rfl) (fun c1=>?_) (fun c1=>?_)
 ·have hi0:((i:Int)=0)=(i=0):=by rw[eq_iff_iff];omega
  have hi4:((i:Int)=4)=(i=4):=by rw[eq_iff_iff];omega
  have hll:=Q1p hs (i:=i) (by omega);refine Ag (Ab ?_);refine Az (Ad [] [3,4,8,9,10] [] hk0 v0 (cc 1 (p:=(0≤(i:Int)∧i < 7)) (by omega)<|c0) ?_);refine Ab (Aa [] [3,4,8,9,10,19] ?_);refine Ax (p:=16 < ((PkgT.list p i).length:Int)) (by kernel_rfl) (fun c2=>?_) (fun c2=>?_)
  ·refine Aa [] [2] ?_;refine Ae (RK wR [(.bool false)] ?_);exact Same.of_eq (by rw[Q43 i (by omega) (by omega)];rfl)
  ·refine Ag (Aa [] [3,8,9,10,22,23,24] ?_);refine Az (Bx (fun g y=>∃(k:Nat),k≤(PkgT.list p i).length∧(∀j,j < k→G2 i (nth (PkgT.list p i) j)=true)∧y=⟨[(3,(.int .i64 ((i:Int)))),(8,(.row 1 7 (fun i => .fp (Aj 5 Ap (PkgT.list p i))))),(9,(.int .i64 7)),(10,(.int .i64 ((i:Int)))),(22,(Aj 5 Ap (PkgT.list p i))),(23,(.int .i64 (((PkgT.list p i).length:Int)))),(24,(.int .i64 ((k:Int))))],[],1⟩∧g=(PkgT.list p i).length-k) [3,8,9,10,22,23,24] 1 _ (by omega) ⟨0,(by omega),(by exact fun j hj=>by omega),(by kernel_rfl),rfl⟩ ?_);rintro g2 y2 ⟨k,f2_1,f2_2,rfl,rfl⟩;refine Aa [] [3,8,9,10,22,23,24,25] ?_;refine Ab ?_;refine Ax (p:=(k:Int) < ((PkgT.list p i).length:Int)) (by kernel_rfl) (fun c3=>?_) (fun c3=>?_)
   ·refine Ag (Ab ?_);refine Az (Ad [] [3,6,8,9,10,22,23,24] [] hk0 v0 (cc 0 (p:=(0≤(k:Int)∧k < (PkgT.list p i).length)) (by omega)<|c0) ?_)
    obtain⟨b1,hb1⟩:∃b,b=(!decide ((i:Int)=0)):=⟨_,rfl⟩
    obtain⟨b2,hb2⟩:∃b,b=(b1&&(!decide ((i:Int)=4))):=⟨_,rfl⟩
    obtain⟨b3,hb3⟩:∃b,b=(b2||(decide (((nth (PkgT.list p i) k).kind)=1))):=⟨_,rfl⟩
    have qh1:((b1=true→b1=true))∧((b1=true→b1=true))∧(((!b2)=true→(!b2)=true))∧(((!b2)=true→(!b2)=true))∧((b2=false→(!b2)=true)):=by
     first|omega|(simp;done)|(by_cases a1:Bw (nth (PkgT.list p i) k)=0<;>by_cases a2:DepT.kind (nth (PkgT.list p i) k)=1<;>by_cases a3:DepT.op (nth (PkgT.list p i) k)=0<;>by_cases a4:DepT.op (nth (PkgT.list p i) k)=2<;>by_cases b0:i=0<;>by_cases b4:i=4<;>simp_all)
    refine Ad [31,32,35,36,37] [3,6,7,8,9,10,22,23,24] [(0,6)] hk0 (vk 3 30 (a:=.bool (!decide ((i:Int)=0))) (b:=.bool b1) (Imp.of_eq (by rw[hb1]))<|vk 7 34 (a:=.bool (b1&&(!decide ((i:Int)=4)))) (b:=.bool b2) (Imp.of_eq (by rw[hb2]))<|vk 11 38 (a:=.bool (b2||(decide (((nth (PkgT.list p i) k).kind)=1)))) (b:=.bool b3) (Imp.of_eq (by rw[hb3]))<|v0) (cc 4 (p:=(b1=true→b1=true)) qh1.1<|cc 5 (p:=(b1=true→b1=true)) qh1.2.1<|cc 8 (p:=((!b2)=true→(!b2)=true)) qh1.2.2.1<|cc 9 (p:=((!b2)=true→(!b2)=true)) qh1.2.2.2.1<|cc 10 (p:=(b2=false→(!b2)=true)) qh1.2.2.2.2<|c0) ?_
    obtain⟨b4,hb4⟩:∃b,b=((!b3)||(!decide ((Bw (nth (PkgT.list p i) k))=0))):=⟨_,rfl⟩
    have qh2:(((!(!b3))=true→(!(!b3))=true))∧(((!b3)=false→(!(!b3))=true))∧(((!b4)=true→(!b4)=true))∧(((!b4)=true→(!b4)=true))∧((((!b4)&&(decide ((i:Int)=0)))=true→((!b4)&&(decide ((i:Int)=0)))=true))∧((((!b4)&&(decide ((i:Int)=0)))=true→((!b4)&&(decide ((i:Int)=0)))=true))∧(((!b4)=true→((!b4)=true)∧((decide ((i:Int)=0))=true→((!b4)&&(decide ((i:Int)=0)))=true)))∧(((!b4)=true→(!b4)=true))∧((((!b4)&&((decide ((i:Int)=0))&&(!decide (((nth (PkgT.list p i) k).op)=0))))=true→((!b4)&&((decide ((i:Int)=0))&&(!decide (((nth (PkgT.list p i) k).op)=0))))=true))∧((((!b4)&&((decide ((i:Int)=0))&&(!decide (((nth (PkgT.list p i) k).op)=0))))=true→((!b4)&&((decide ((i:Int)=0))&&(!decide (((nth (PkgT.list p i) k).op)=0))))=true))∧(((!b4)=true→((!b4)=true)∧(((decide ((i:Int)=0))&&(!decide (((nth (PkgT.list p i) k).op)=0)))=true→((!b4)&&((decide ((i:Int)=0))&&(!decide (((nth (PkgT.list p i) k).op)=0))))=true)))∧((b4=false→(!b4)=true)):=by
     first|omega|(simp;done)|(by_cases a1:Bw (nth (PkgT.list p i) k)=0<;>by_cases a2:DepT.kind (nth (PkgT.list p i) k)=1<;>by_cases a3:DepT.op (nth (PkgT.list p i) k)=0<;>by_cases a4:DepT.op (nth (PkgT.list p i) k)=2<;>by_cases b0:i=0<;>by_cases b4:i=4<;>simp_all)
    refine Ad [42,44,47,48,49,50,51,52,53,54,55,56,57,58] [3,8,9,10,22,23,24,59] [] (hkg 4 (!(!b3)) Pd (fun cg=>Tb (nth (PkgT.list p i) k) (Q1o hs (by omega) (by omega)))<|hk0) (vk 7 45 (a:=.bool ((!b3)||(!decide ((Bw (nth (PkgT.list p i) k))=0)))) (b:=.bool b4) (Imp.of_eq (by rw[hb4]))<|v0) (cc 4 (p:=(!(!b3))=true→(!(!b3))=true) (by simp)<|cc 5 (p:=((!(!b3))=true→(!(!b3))=true)) qh2.1<|cc 6 (p:=((!b3)=false→(!(!b3))=true)) qh2.2.1<|cc 9 (p:=((!b4)=true→(!b4)=true)) qh2.2.2.1<|cc 10 (p:=((!b4)=true→(!b4)=true)) qh2.2.2.2.1<|cc 12 (p:=(((!b4)&&(decide ((i:Int)=0)))=true→((!b4)&&(decide ((i:Int)=0)))=true)) qh2.2.2.2.2.1<|cc 13 (p:=(((!b4)&&(decide ((i:Int)=0)))=true→((!b4)&&(decide ((i:Int)=0)))=true)) qh2.2.2.2.2.2.1<|cc 14 (p:=((!b4)=true→((!b4)=true)∧((decide ((i:Int)=0))=true→((!b4)&&(decide ((i:Int)=0)))=true))) qh2.2.2.2.2.2.2.1<|cc 15 (p:=((!b4)=true→(!b4)=true)) qh2.2.2.2.2.2.2.2.1<|cc 17 (p:=(((!b4)&&((decide ((i:Int)=0))&&(!decide (((nth (PkgT.list p i) k).op)=0))))=true→((!b4)&&((decide ((i:Int)=0))&&(!decide (((nth (PkgT.list p i) k).op)=0))))=true)) qh2.2.2.2.2.2.2.2.2.1<|cc 18 (p:=(((!b4)&&((decide ((i:Int)=0))&&(!decide (((nth (PkgT.list p i) k).op)=0))))=true→((!b4)&&((decide ((i:Int)=0))&&(!decide (((nth (PkgT.list p i) k).op)=0))))=true)) qh2.2.2.2.2.2.2.2.2.2.1<|cc 19 (p:=((!b4)=true→((!b4)=true)∧(((decide ((i:Int)=0))&&(!decide (((nth (PkgT.list p i) k).op)=0)))=true→((!b4)&&((decide ((i:Int)=0))&&(!decide (((nth (PkgT.list p i) k).op)=0))))=true))) qh2.2.2.2.2.2.2.2.2.2.2.1<|cc 20 (p:=(b4=false→(!b4)=true)) qh2.2.2.2.2.2.2.2.2.2.2.2<|c0) ?_
    refine A5 (q:=b4||(((decide ((i:Int)=0))&&(!decide (((nth (PkgT.list p i) k).op)=0)))&&(!decide (((nth (PkgT.list p i) k).op)=2)))) (by kernel_rfl) (fun c4=>?_) (fun c4=>?_)
    ·subst hb4 hb3 hb2 hb1
     try simp only[Ai] at c4
     refine Aa [] [2] ?_;refine Ae (RK wR [(.bool false)] ?_);exact Same.of_eq (by rw[Si i (j:=k) (by omega) (by omega) (by unfold G2;by_cases a1:Bw (nth (PkgT.list p i) k)=0<;>by_cases a2:DepT.kind (nth (PkgT.list p i) k)=1<;>by_cases a3:DepT.op (nth (PkgT.list p i) k)=0<;>by_cases a4:DepT.op (nth (PkgT.list p i) k)=2<;>by_cases b0:i=0<;>by_cases b4:i=4<;>simp_all)];rfl)
    ·subst hb4 hb3 hb2 hb1
     try simp only[Ai] at c4
     refine Ag ?_;refine An (Av 0 [] [3,8,9,10,22,23,24] [] hk0 v0 (cc 0 (p:=(-9223372036854775808≤(k:Int)+1∧(k:Int)+1≤9223372036854775807)) (by omega)<|c0) ?_);refine⟨by kernel_rfl,_,?_,k+1,?_,?_,(by kernel_rfl),rfl⟩
     ·omega
     ·omega
     ·intro j hj;by_cases h:j=k
      ·subst h;unfold G2;by_cases a1:Bw (nth (PkgT.list p i) j)=0<;>by_cases a2:DepT.kind (nth (PkgT.list p i) j)=1<;>by_cases a3:DepT.op (nth (PkgT.list p i) j)=0<;>by_cases a4:DepT.op (nth (PkgT.list p i) j)=2<;>by_cases b0:i=0<;>by_cases b4:i=4<;>simp_all
      ·exact f2_2 j (by omega)
   ·refine Bp ?_;refine An (Av 0 [] [8,9,10] [] hk0 v0 (cc 0 (p:=(-9223372036854775808≤(i:Int)+1∧(i:Int)+1≤9223372036854775807)) (by omega)<|c0) ?_);refine⟨by kernel_rfl,_,?_,i+1,?_,?_,(by kernel_rfl),rfl⟩
    ·omega
    ·omega
    ·intro j hj;by_cases h:j=i
     ·subst h;exact Q1r (k:=k) (by omega) (by omega) f2_2
     ·exact f1_2 j (by omega)
 ·refine Bp (Aa [] [2] ?_);refine Ae (RK wR [(.bool true)] ?_);exact Same.of_eq (by rw[Q44 fun j hj=>f1_2 j (by omega)];rfl)
theorem X04 (p:PkgT) (hs:p.depSize≤4194304) :
  FnV Tryz.prog 94 [(Ar p)] (.bool (Gl p)):=by
 refine A3 [.tmp 2] Tryz.func94 rfl Tryz.ntmps94 rfl rfl (fun B F hF=>?_);refine Ad [] [1] [(1,1)] hk0 v0 c0 ?_;refine Ad [] [3] [] (hk 1 X8e (X00 p)<|hk0) v0 c0 ?_;refine Ab (Aa [] [3,4] ?_);refine Az (Bx (fun g y=>∃(i:Nat),i≤7∧(∀j,j < i→D4 j (PkgT.list p j)=true)∧y=⟨[(3,(.row 1 7 (fun i=>Aj 5 Ap (PkgT.list p i)))),(4,(.int .i64 ((i:Int))))],[],1⟩∧g=7-i) [3,4] 1 _ (by omega) ⟨0,(by omega),(by exact fun j hj=>by omega),(by kernel_rfl),rfl⟩ ?_);rintro g1 y1 ⟨i,f1_1,f1_2,rfl,rfl⟩;refine Ab (Aa [] [3,4,12] ?_);refine Ax (p:=(i:Int) < 7) (by kernel_rfl) (fun c1=>?_) (fun c1=>?_)
 ·have hi0:((i:Int)=0)=(i=0):=by rw[eq_iff_iff];omega
  have hi4:((i:Int)=4)=(i=4):=by rw[eq_iff_iff];omega
  have hll:=Q1p hs (i:=i) (by omega);refine Ag ?_;refine Ab (Az ?_);refine Ab (Ad [] [3,4,20] [] hk0 v0 (cc 2 (p:=(0≤(i:Int)∧i < 7)) (by omega)<|c0) ?_);refine Ax (p:=16 < ((PkgT.list p i).length:Int)) (by kernel_rfl) (fun c2=>?_) (fun c2=>?_)
  ·refine Aa [] [2] ?_;refine Ae (RK wR [(.bool false)] ?_);exact Same.of_eq (by rw[Q43 i (by omega) (by omega)];rfl)
  ·refine Ag (Aa [] [3,4,5] ?_);refine Az (Bx (fun g y=>∃(k:Nat),k≤(PkgT.list p i).length∧(∀j,j < k→G2 i (nth (PkgT.list p i) j)=true)∧y=⟨[(3,(.row 1 7 (fun i=>Aj 5 Ap (PkgT.list p i)))),(4,(.int .i64 ((i:Int)))),(5,(.int .i64 ((k:Int))))],[],1⟩∧g=(PkgT.list p i).length-k) [3,4,5] 1 _ (by omega) ⟨0,(by omega),(by exact fun j hj=>by omega),(by kernel_rfl),rfl⟩ ?_);rintro g2 y2 ⟨k,f2_1,f2_2,rfl,rfl⟩;refine Ab (Ad [] [3,4,5,27] [] hk0 v0 (cc 3 (p:=(0≤(i:Int)∧i < 7)) (by omega)<|c0) ?_);refine Ax (p:=(k:Int) < ((PkgT.list p i).length:Int)) (by kernel_rfl) (fun c3=>?_) (fun c3=>?_)
   ·refine Ag (Ab ?_);refine Az (Ad (CS:=[(2,(0≤(i:Int)∧i < 7)),(5,(0≤(k:Int)∧k < (PkgT.list p i).length))]) [] [3,4,5,6] [] hk0 v0 (by refine cc _ ?_<|cc _ ?_ c0<;>omega) ?_);refine Ab (Ad [] [3,4,5,6,39] [(0,6)] (hk 1 Sb (Ub (nth (PkgT.list p i) k) (Q1o hs (by omega) (by omega)))<|hk0) v0 c0 ?_);refine Cr (p:=(Bw (nth (PkgT.list p i) k))=0) (by kernel_rfl) (fun c4=>?_) (fun c4=>?_)
    ·refine Aa [] [2] ?_;refine Ae (RK wR [(.bool false)] ?_);exact Same.of_eq (by rw[Si i (j:=k) (by omega) (by omega) (by unfold G2;by_cases a1:Bw (nth (PkgT.list p i) k)=0<;>by_cases a2:DepT.kind (nth (PkgT.list p i) k)=1<;>by_cases a3:DepT.op (nth (PkgT.list p i) k)=0<;>by_cases a4:DepT.op (nth (PkgT.list p i) k)=2<;>by_cases b0:i=0<;>by_cases b4:i=4<;>simp_all)];rfl)
    ·refine Ag (Ab ?_)
     obtain⟨b1,hb1⟩:∃b,b=(decide ((i:Int)=0)):=⟨_,rfl⟩
     obtain⟨b2,hb2⟩:∃b,b=(b1||(decide ((i:Int)=4))):=⟨_,rfl⟩
     have qh1:(((!b1)=true→(!b1)=true))∧((b1=false→(!b1)=true))∧((b2=true→b2=true))∧((b2=true→b2=true))∧((b2=true→b2=true)):=by
      first|omega|(simp;done)|(by_cases a1:Bw (nth (PkgT.list p i) k)=0<;>by_cases a2:DepT.kind (nth (PkgT.list p i) k)=1<;>by_cases a3:DepT.op (nth (PkgT.list p i) k)=0<;>by_cases a4:DepT.op (nth (PkgT.list p i) k)=2<;>by_cases b0:i=0<;>by_cases b4:i=4<;>simp_all)
     refine Ad [43,44,47,48,49] [3,4,5,6,50] [] hk0 (vk 3 42 (a:=.bool (decide ((i:Int)=0))) (b:=.bool b1) (Imp.of_eq (by rw[hb1]))<|vk 7 46 (a:=.bool (b1||(decide ((i:Int)=4)))) (b:=.bool b2) (Imp.of_eq (by rw[hb2]))<|v0) (cc 4 (p:=((!b1)=true→(!b1)=true)) qh1.1<|cc 5 (p:=(b1=false→(!b1)=true)) qh1.2.1<|cc 8 (p:=(b2=true→b2=true)) qh1.2.2.1<|cc 9 (p:=(b2=true→b2=true)) qh1.2.2.2.1<|cc 10 (p:=(b2=true→b2=true)) qh1.2.2.2.2<|c0) ?_;refine A5 (q:=b2&&(!decide (((nth (PkgT.list p i) k).kind)=1))) (by kernel_rfl) (fun c5=>?_) (fun c5=>?_)
     ·subst hb2 hb1
      try simp only[Ai] at c5
      refine Aa [] [2] ?_;refine Ae (RK wR [(.bool false)] ?_);exact Same.of_eq (by rw[Si i (j:=k) (by omega) (by omega) (by unfold G2;by_cases a1:Bw (nth (PkgT.list p i) k)=0<;>by_cases a2:DepT.kind (nth (PkgT.list p i) k)=1<;>by_cases a3:DepT.op (nth (PkgT.list p i) k)=0<;>by_cases a4:DepT.op (nth (PkgT.list p i) k)=2<;>by_cases b0:i=0<;>by_cases b4:i=4<;>simp_all)];rfl)
     ·subst hb2 hb1
      try simp only[Ai] at c5
      refine Ag ?_
      obtain⟨b3,hb3⟩:∃b,b=(decide ((i:Int)=0)):=⟨_,rfl⟩
      obtain⟨b4,hb4⟩:∃b,b=(b3&&(!decide (((nth (PkgT.list p i) k).op)=0))):=⟨_,rfl⟩
      have qh2:((b3=true→b3=true))∧((b3=true→b3=true))∧((b3=true→b3=true))∧((b4=true→b4=true))∧((b4=true→b4=true))∧((b4=true→b4=true)):=by
       first|omega|(simp;done)|(by_cases a1:Bw (nth (PkgT.list p i) k)=0<;>by_cases a2:DepT.kind (nth (PkgT.list p i) k)=1<;>by_cases a3:DepT.op (nth (PkgT.list p i) k)=0<;>by_cases a4:DepT.op (nth (PkgT.list p i) k)=2<;>by_cases b0:i=0<;>by_cases b4:i=4<;>simp_all)
      refine Ad [54,55,56,59,60,61] [3,4,5,62] [] hk0 (vk 3 53 (a:=.bool (decide ((i:Int)=0))) (b:=.bool b3) (Imp.of_eq (by rw[hb3]))<|vk 7 57 (a:=.bool (b3&&(!decide (((nth (PkgT.list p i) k).op)=0)))) (b:=.bool b4) (Imp.of_eq (by rw[hb4]))<|v0) (cc 4 (p:=(b3=true→b3=true)) qh2.1<|cc 5 (p:=(b3=true→b3=true)) qh2.2.1<|cc 6 (p:=(b3=true→b3=true)) qh2.2.2.1<|cc 9 (p:=(b4=true→b4=true)) qh2.2.2.2.1<|cc 10 (p:=(b4=true→b4=true)) qh2.2.2.2.2.1<|cc 11 (p:=(b4=true→b4=true)) qh2.2.2.2.2.2<|c0) ?_;refine A5 (q:=b4&&(!decide (((nth (PkgT.list p i) k).op)=2))) (by kernel_rfl) (fun c6=>?_) (fun c6=>?_)
      ·subst hb4 hb3
       try simp only[Ai] at c6
       refine Aa [] [2] ?_;refine Ae (RK wR [(.bool false)] ?_);exact Same.of_eq (by rw[Si i (j:=k) (by omega) (by omega) (by unfold G2;by_cases a1:Bw (nth (PkgT.list p i) k)=0<;>by_cases a2:DepT.kind (nth (PkgT.list p i) k)=1<;>by_cases a3:DepT.op (nth (PkgT.list p i) k)=0<;>by_cases a4:DepT.op (nth (PkgT.list p i) k)=2<;>by_cases b0:i=0<;>by_cases b4:i=4<;>simp_all)];rfl)
      ·subst hb4 hb3
       try simp only[Ai] at c6
       refine Ag ?_;refine An (Av 0 [] [3,4,5] [] hk0 v0 (cc 1 (p:=(-9223372036854775808≤(k:Int)+1∧(k:Int)+1≤9223372036854775807)) (by omega)<|c0) ?_);refine⟨by kernel_rfl,_,?_,k+1,?_,?_,(by kernel_rfl),rfl⟩
       ·omega
       ·omega
       ·intro j hj;by_cases h:j=k
        ·subst h;unfold G2;by_cases a1:Bw (nth (PkgT.list p i) j)=0<;>by_cases a2:DepT.kind (nth (PkgT.list p i) j)=1<;>by_cases a3:DepT.op (nth (PkgT.list p i) j)=0<;>by_cases a4:DepT.op (nth (PkgT.list p i) j)=2<;>by_cases b0:i=0<;>by_cases b4:i=4<;>simp_all
        ·exact f2_2 j (by omega)
   ·refine Bp ?_;refine An (Av 0 [] [3,4] [] hk0 v0 (cc 1 (p:=(-9223372036854775808≤(i:Int)+1∧(i:Int)+1≤9223372036854775807)) (by omega)<|c0) ?_);refine⟨by kernel_rfl,_,?_,i+1,?_,?_,(by kernel_rfl),rfl⟩
    ·omega
    ·omega
    ·intro j hj;by_cases h:j=i
     ·subst h;exact Q1r (k:=k) (by omega) (by omega) f2_2
     ·exact f1_2 j (by omega)
 ·refine Bp (Aa [] [2] ?_);refine Ae (RK wR [(.bool true)] ?_);exact Same.of_eq (by rw[Q44 fun j hj=>f1_2 j (by omega)];rfl)
end Sv
end
end Go.Proofs.YtlamaeednbhjdaaGreatDoor
