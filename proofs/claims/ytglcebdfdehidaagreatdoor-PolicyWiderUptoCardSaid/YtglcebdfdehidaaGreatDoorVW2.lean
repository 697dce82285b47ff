/- The texts S32, S33, S34, S35, S36, S37, S38, S39, S40, S41, S42, S43, S44, S45, S46, S47, DepV, NamV, Evr1, CmpV, EvrV, EvrW, PkgV, FormV, PrintZ, Pool1, RuneV, NextV, OneZ of the proof, joined. Each says at its theorems what it proves. -/
import Derived.Test.YtglcebdfdehidaaGreatDoorVW1
import Derived.ScopeJumps
import Derived.Lib.AppendZerosOnto
set_option linter.unusedSimpArgs false
set_option linter.unusedVariables false
open Go.Proofs.Tryz
set_option maxHeartbeats 2000000
set_option maxRecDepth 100000
namespace Go.Proofs.YtglcebdfdehidaaGreatDoor
open Go Go.RowKit
namespace Sv
def Q3w (l:Nat) (J:Act→World→Prop) (Q:Exit→Act→World→Prop):Exit→Act→World→Prop
 |.goto l',a,w=>l'=l∧J a w
 |e,a,w=>Q e a w
theorem Q9j {P:Program} {Q:Exit→Act→World→Prop} {c rest:Code} {a:Act} {w:World} (l:Nat) (hf:findLabel c l=some rest) (I:Nat→Act→World→Prop)
  (first:c.wp P (Q3w l (fun a w=>∃g,I g a w) Q) a w)
  (pass:∀g a w,I g a w→rest.wp P (Q3w l (fun a w=>∃g',g' < g∧I g' a w) Q) a w):(Code.scope c).wp P Q a w:=by
 intro b k cs
 have hg:gotoIn l (.inScope c::k)=some (.code rest :: .inScope c::k):=by simp[gotoIn,hf]
 have key:∀g a w,I g a w→∃e a' w',Q e a' w'∧Arrives P (lone (b.at a (.code rest :: .inScope c::k)) cs w) b k cs e a' w':=by
  intro g
  induction g using Nat.strongRecOn with
  |_ g ih =>
   intro a w hI;obtain⟨e,a₁,w₁,hq,harr⟩:=pass g a w hI b (.inScope c::k) cs
   cases e with
   |normal=>exact⟨.normal,a₁,w₁,hq,Steps.trans harr (.one step_inScope)⟩
   |exit id=>exact⟨.exit id,a₁,w₁,hq,fun k' hk=>harr k' (by simp[exitTo,hk])⟩
   |goto l' =>
    obtain⟨rfl,g',hlt,hI'⟩:=hq;obtain⟨e₂,a₂,w₂,hq₂,harr₂⟩:=ih g' hlt a₁ w₁ hI';exact⟨e₂,a₂,w₂,hq₂,.of_steps (harr _ hg) harr₂⟩
   |ret=>exact⟨_,a₁,w₁,hq,harr⟩
   |panic ch=>exact⟨_,a₁,w₁,hq,harr⟩
   |outgrown=>exact⟨_,a₁,w₁,hq,harr⟩
 obtain⟨e,a₁,w₁,hq,harr⟩:=first b (.inScope c::k) cs
 cases e with
 |normal=>exact⟨.normal,a₁,w₁,hq,.of_steps (.one step_scope) (Steps.trans harr (.one step_inScope))⟩
 |exit id=>exact⟨.exit id,a₁,w₁,hq,.of_steps (.one step_scope) (fun k' hk=>harr k' (by simp[exitTo,hk]))⟩
 |goto l' =>
  obtain⟨rfl,g,hI⟩:=hq;obtain⟨e₂,a₂,w₂,hq₂,harr₂⟩:=key g a₁ w₁ hI;exact⟨e₂,a₂,w₂,hq₂,.of_steps (.one step_scope) (.of_steps (harr _ hg) harr₂)⟩
 |ret=>exact⟨_,a₁,w₁,hq,.of_steps (.one step_scope) harr⟩
 |panic ch=>exact⟨_,a₁,w₁,hq,.of_steps (.one step_scope) harr⟩
 |outgrown=>exact⟨_,a₁,w₁,hq,.of_steps (.one step_scope) harr⟩
def Tg (l:Nat) (J:St→Prop) (K:Exit→St→Prop):Exit→St→Prop
 |.goto l',x=>l'=l∧J x
 |e,x=>K e x
section
variable {P : Program} {B : Bas} {F : Cx} {n : Nat} {K : Exit → St → Prop} {x : St}
theorem Ly {l:Nat} (h:K (.goto l) x):SW P n (.goto l) B F K x:=fun φ σ w hx=>Y4c ⟨x,φ,hx,h⟩
theorem Y44 {c:Code} {K K':Exit→St→Prop} (h:SW P n c B F K x) (m:∀e y,K e y→K' e y):SW P n c B F K' x:=fun φ σ w hx=>W_mono (h φ σ w hx) fun e σ' w' ⟨y,φ',h1,h2⟩=>⟨y,φ',h1,m e y h2⟩
theorem Uo {c c2:Code} (l:Nat) (hf:findLabel c l=some (.seq .skip c2)) (I:Nat→St→Prop) (ts:List Nat) (m:Nat) (hlo:F.lo≤m)
  (first:(∀g y,I g y→SW P n c2 B F (Tg l (fun z=>∃z',gcS ts m z=some z'∧∃g,I g z') K) y)→SW P n c B F (Tg l (fun z=>∃z',gcS ts m z=some z'∧∃g,I g z') K) x)
  (round:∀g y,I g y→SW P n c2 B F (Tg l (fun z=>∃z',gcS ts m z=some z'∧∃g',g' < g∧I g' z') K) y):SW P n (.scope c) B F K x:=by
 have hr:∀g y,I g y→SW P n c2 B F (Tg l (fun z=>∃z',gcS ts m z=some z'∧∃g,I g z') K) y:=fun g y hI=>Y44 (round g y hI) fun e z hz=>by
  cases e with
  |goto l'=>obtain⟨e,z',h1,g',_,h2⟩:=hz;exact⟨e,z',h1,g',h2⟩
  |_=>exact hz
 intro φ σ w hx;unfold W;refine Q9j l hf (fun g a w=>∃σ,a=mk n σ∧∃y φ,Holds B F n y φ σ w∧I g y) ?_ ?_
 ·have h1:=first hr φ σ w hx
  unfold W at h1;refine wp_mono h1 ?_;rintro e a w' ⟨σ',rfl,y,φ',hy,hk⟩
  cases e with
  |goto l'=>obtain⟨e,z',hz,g,hI⟩:=hk;exact⟨e,g,σ',rfl,z',_,hy.gc hlo hz,hI⟩
  |_=>exact⟨σ',rfl,y,φ',hy,hk⟩
 ·rintro g a w ⟨σ,rfl,y,φ,hy,hI⟩;have h1:=Ab (Ae (round g y hI)) φ σ w hy;unfold W at h1;refine wp_mono h1 ?_;rintro e a w' ⟨σ',rfl,y',φ',hy',hk⟩
  cases e with
  |goto l'=>obtain⟨e,z',hz,g',hlt,hI'⟩:=hk;exact⟨e,g',hlt,σ',rfl,z',_,hy'.gc hlo hz,hI'⟩
  |_=>exact⟨σ',rfl,y',φ',hy',hk⟩
end
noncomputable def So:List AV→Bool
 |[]=>true
 |a::l=>Me a&&So l
noncomputable def Q04:AV→Bool
 |.tup l=>So l
 |a=>Me a
theorem Q05:∀{l:List AV} {φ φ':Phi} {vs:List Value},So l=true→VRl φ l vs→VRl φ' l vs
 |[],_,_,_,_,k=>by rw[k.nil_inv];exact .nil
 |a::l,_,_,_,h,k=>by
  simp only[So,Bool.and_eq_true] at h;obtain⟨v,vs',rfl,h1,h2⟩:=k.cons_inv;exact .cons (Pw h.1 h1) (Q05 h.2 h2)
theorem X3b {φ φ':Phi} {a:AV} {v:Value} (h:Q04 a=true) (k:VR φ a v):VR φ' a v:=by
 cases a
 case tup l =>
  simp only[VR] at k ⊢;obtain⟨vs,k1,e⟩:=k;exact⟨vs,Q05 h k1,e⟩
 all_goals exact Pw h k
section
variable {P : Program} {B : Bas} {F : Cx} {n : Nat} {K : Exit → St → Prop} {x : St} {ops : Array Oper}
theorem Q8y {rest:List Oper} {t:Nat} {f:FuncId} {cap:List AV} {ar:Array Operand} {ts:Array TypeId} {ty:TypeId} {ps:String} {dst:Option Tmp} {af:Array Edge} {g:Option (Nat × Bool)} {al al':List AV} {h':AH} {r:AV} {s':Fr}
  (hg:Cp ops x.s g=true) (hc:Ck t x.s=some (.fn f [] cap)) (he:Ai P f) (ha:Dw (evA x.s) ar.toList=some al) (hz:frzVl P x.h (al++cap)=some (al',h')) (hf:FnV P f al' r) (hr:Q04 r=true) (hp:B3 n dst r x.s=some s')
  (next:SO P n ops rest B F K ⟨s',x.h,x.nx⟩):SO P n ops (⟨dst,.call { callee:=.value (.tmp t),args:=ar,argTypes:=ts },ty,ps,af,g⟩::rest) B F K x:=by
 intro φ σ w hx;have hfn:=hx.fr _ _ hc;simp only[VR] at hfn;obtain⟨vf,vc,h1,h2,h3⟩:=hfn;have:=h1.nil_inv;subst this;obtain⟨F',f1,f2,f3,f4⟩:=frzVl_ok hz B φ w _ hx.rel ((E4 hx.fr.ev ha).append h2);refine Rb (x:=.tmp t) (cap:=vc.toArray) (Cs hx.fr hg) h3 he (by simpa using hf F' w _ f3.fro f4) ?_;rintro v w' ⟨hb,F'',h1,h2,h3,h4⟩;have hh:Holds B F n x φ σ w':=hx.called hb (fun _ _ e=>e) (fun b o e=>(hb.block b (Dl (hx.rel.fro b o e))).trans (hx.rel.fro b o e)) (fun _ _ e => .inl e);exact next _ _ _ ⟨hh.fr.put hp (X3b hr h4),hh.rel,hh.dom,hh.old,hh.new,hh.base⟩
end
section
variable {P : Program} {n : Nat}
def HasI (s:Fr) (X:Operand) (k:IntKind) (a:Int):Prop:=evA s X=some (.int k a)∨∃q,evA s X=some (.cond q (.int k a))∧q=true
theorem HasI.get {φ:Phi} {σ:Nat→Value} {s:Fr} {X:Operand} {k:IntKind} {a:Int} (h:HasI s X k a) (hf:FRel φ n s σ):ev n σ X = .int k a:=by
 rcases h with h|⟨q,h,hq⟩
 ·have:=hf.ev _ _ h;simpa only [VR] using this
 ·have:=hf.ev _ _ h;simp only[VR] at this;exact this.1 hq
theorem Q4 {dst:Option Tmp} {X Y:Operand} {t t' ty:TypeId} {ps:String} {af:Array Edge} {g:Option (Nat × Bool)} {s:Fr} {k:IntKind} {a b:Int} (hx:HasI s X k a) (hy:HasI s Y k b) (φ:Phi) (σ:Nat→Value) (h:FRel φ n s σ) :
  ∃v,(∀w,(execOp (ev n σ) ⟨dst,.binOp .and t X Y t',ty,ps,af,g⟩).run P w = .ok (.value v) w)∧VR φ (.int k (Go.bits .and k a b)) v:=by
 have h1:=hx.get h;have h2:=hy.get h;exact⟨.int k (Go.bits .and k a b),fun w=>by simp[execOp,h1,h2,go_sem],by simp only[VR]⟩
end
structure Hint where
 i:Nat
 f:Nat
 al:List AV
 r:AV
 c:Bool
 q:Bool
def HOk (P:Program):List Hint→Prop
 |[]=>True
 |h::l=>(h.q=true→Ai P h.f∧FnV P h.f h.al h.r)∧HOk P l
theorem hk0 {P:Program}:HOk P []:=trivial
theorem hk {P:Program} (i:Nat) {f:Nat} {al:List AV} {r:AV} {l:List Hint} (he:Ai P f) (hf:FnV P f al r) (h:HOk P l):HOk P (⟨i,f,al,r,false,true⟩::l):=⟨fun _=>⟨he,hf⟩,h⟩
theorem hkg {P:Program} (i:Nat) (q:Bool) {f:Nat} {al:List AV} {r:AV} {l:List Hint} (he:Ai P f) (hf:q=true→FnV P f al r) (h:HOk P l):HOk P (⟨i,f,al,r,true,q⟩::l):=⟨fun k=>⟨he,hf k⟩,h⟩
noncomputable def Qp:List Hint→Nat→Option Hint
 |[],_=>none
 |h::l,i=>bif Nat.beq h.i i then some h else Qp l i
theorem W9 {P:Program}:∀{l:List Hint} {i:Nat} {h:Hint},HOk P l→Qp l i=some h→h.q=true→Ai P h.f∧FnV P h.f h.al h.r
 |[],_,_,_,e,_=>by cases e
 |a::l,i,h,k,e,q=>by
  unfold Qp at e
  cases hb:Nat.beq a.i i with
  |true=>rw[hb] at e;cases e;exact k.1 q
  |false=>rw[hb] at e;exact W9 k.2 e q
def COk:List (Nat × Prop)→Prop
 |[]=>True
 |c::l=>c.2∧COk l
theorem c0:COk []:=trivial
theorem cc (i:Nat) {p:Prop} {l:List (Nat × Prop)} (h:p) (k:COk l):COk ((i,p)::l):=⟨h,k⟩
noncomputable def I1:List (Nat × Prop)→Nat→Prop
 |[],_=>True
 |c::l,i=>bif Nat.beq c.1 i then c.2 else I1 l i
theorem Tv:∀{l:List (Nat × Prop)} (i:Nat),COk l→I1 l i
 |[],_,_=>trivial
 |c::l,i,k=>by
  unfold I1
  cases hb:Nat.beq c.1 i with
  |true=>exact k.1
  |false=>exact Tv i k.2
structure Conv where
 i:Nat
 t:Nat
 a:AV
 b:AV
def VOk:List Conv→Prop
 |[]=>True
 |v::l=>Imp v.a v.b∧VOk l
theorem v0:VOk []:=trivial
theorem vk (i t:Nat) {a b:AV} {l:List Conv} (h:Imp a b) (k:VOk l):VOk (⟨i,t,a,b⟩::l):=⟨h,k⟩
noncomputable def Ku (i:Nat):Option Prop→List (Nat × Prop)→List (Nat × Prop)
 |none,l=>l
 |some p,l=>(i,p)::l
noncomputable def Wx (q:Bool):Option Prop→Option Prop
 |none=>none
 |some p=>some (q=true→p)
noncomputable def X3 (n:Nat) (ops:Array Oper) (h:Hint) (o:Oper) (x:St):Option (St × Option Prop × List AV × Bool):=match o.op with
 |.call { callee:=.value (.func f),args:=ar,argTypes:=_ }=>bif Nat.beq f h.f then
   (bif h.c then (match Iy ops x.s o.guard with
    |some q=>match Dw (Jd ar.toList (evA x.s)) ar.toList with
     |some al=>bif frzl al then (match B3 n o.dst (.cond q h.r) x.s with
      |some s'=>some (⟨s',x.h,x.nx⟩,Wx q (E7 (evA x.s) ar.toList),al,q)
      |none=>none) else none
     |none=>none
    |none=>none)
   else bif Cp ops x.s o.guard then (match Dw (evA x.s) ar.toList with
     |some al=>bif frzl al then (match B3 n o.dst h.r x.s with
      |some s'=>some (⟨s',x.h,x.nx⟩,none,al,true)
      |none=>none) else none
     |none=>none) else none) else none
 |_=>none
noncomputable def Hx (i:Nat):List Conv→St→Option (St × List AV)
 |[],x=>some (x,[])
 |v::l,x=>bif Nat.beq v.i i then (match Ck v.t x.s with
   |some a=>match Hx i l ⟨Gi v.t v.b x.s,x.h,x.nx⟩ with
    |some (y,m)=>some (y,a::m)
    |none=>none
   |none=>none) else Hx i l x
noncomputable def Hy (i:Nat):List Conv→List AV
 |[]=>[]
 |v::l=>bif Nat.beq v.i i then v.a::Hy i l else Hy i l
noncomputable def Iq (P:Program) (i:Nat):List (Nat × Nat)→St→Option St
 |[],x=>some x
 |t::l,x=>bif Nat.beq t.1 i then (match Pn P t.2 x with
   |some y=>Iq P i l y
   |none=>none) else Iq P i l x
noncomputable def Nr (P:Program) (n:Nat) (ops:Array Oper) (lz:List Nat) (H:List Hint) (i:Nat) (o:Oper) (x:St):Option (St × Option Prop × Option (List AV × Bool)):=match Qp H i with
 |none=>match K7 P n ops lz o x with
  |some (y,C)=>some (y,C,none)
  |none=>none
 |some h=>match X3 n ops h o x with
  |some (y,C,A)=>some (y,C,some A)
  |none=>none
noncomputable def O0 (i:Nat) (A:Option (List AV × Bool)) (l:List (Nat × List AV × Bool)):List (Nat × List AV × Bool):=match A with
 |none=>l
 |some a=>(i,a)::l
noncomputable def Ix (H:List Hint) (i:Nat):List AV × Bool:=match Qp H i with
 |some h=>(h.al,h.q)
 |none=>([],false)
section
variable {P : Program} {B : Bas} {w : World} {F F0 : Cx} {n : Nat} {φ : Phi} {σ : Nat → Value} {K : Exit → St → Prop} {KK : St → Prop} {x y : St} {E : Bool} {ops : Array Oper} {fuel : Nat} {listed : Array Bool} {H : List Hint} {lz : List Nat} {i : Nat} {o : Oper} {C : Option Prop} {A : Option (List AV × Bool)}
theorem Q66 {h:Hint} {al:List AV} {q:Bool} (hc:X3 n ops h o x=some (y,C,al,q)):∃dst ty ps af g ar ts s',o=⟨dst,.call { callee:=.value (.func h.f),args:=ar,argTypes:=ts },ty,ps,af,g⟩∧frzl al=true∧y=⟨s',x.h,x.nx⟩ ∧
  ((Iy ops x.s g=some q∧Dw (Jd ar.toList (evA x.s)) ar.toList=some al∧B3 n dst (.cond q h.r) x.s=some s'∧C=Wx q (E7 (evA x.s) ar.toList)) ∨
  (Cp ops x.s g=true∧Dw (evA x.s) ar.toList=some al∧B3 n dst h.r x.s=some s'∧q=true)):=by
 obtain⟨dst,op,ty,ps,af,g⟩:=o;unfold X3 at hc;split at hc
 ·rename_i f ar ts hop;simp only at hop hc;subst hop
  cases hb:Nat.beq f h.f with
  |false=>rw[hb] at hc;cases hc
  |true =>
   have hf:=Nat.eq_of_beq_eq_true hb;rw[hb,cond_true] at hc
   cases hcc:h.c with
   |true =>
    rw[hcc,cond_true] at hc;split at hc
    ·rename_i q' hg;split at hc
     ·rename_i al' hal
      cases hz:frzl al' with
      |false=>rw[hz] at hc;cases hc
      |true =>
       rw[hz,cond_true] at hc;split at hc
       ·rename_i s' hp;simp only[Option.some.injEq,Prod.mk.injEq] at hc;obtain⟨rfl,rfl,rfl,rfl⟩:=hc;exact⟨_,_,_,_,_,_,_,_,by rw[hf],hz,rfl,.inl ⟨hg,hal,hp,rfl⟩⟩
       ·cases hc
     ·cases hc
    ·cases hc
   |false =>
    rw[hcc,cond_false] at hc
    cases hg:Cp ops x.s g with
    |false=>rw[hg] at hc;cases hc
    |true =>
     rw[hg,cond_true] at hc;split at hc
     ·rename_i al' hal
      cases hz:frzl al' with
      |false=>rw[hz] at hc;cases hc
      |true =>
       rw[hz,cond_true] at hc;split at hc
       ·rename_i s' hp;simp only[Option.some.injEq,Prod.mk.injEq] at hc;obtain⟨rfl,rfl,rfl,rfl⟩:=hc;exact⟨_,_,_,_,_,_,_,_,by rw[hf],hz,rfl,.inr ⟨hg,hal,hp,rfl⟩⟩
       ·cases hc
     ·cases hc
 ·cases hc
theorem Q4d {q:Bool} {c:Option Prop} (h:Bk (Wx q c)) (k:q=true):Bk c:=by
 cases c with
 |none=>trivial
 |some p=>exact h k
theorem Y5e {rest:List Oper} {dst:Option Tmp} {op:Op} {ty:TypeId} {ps:String} {af:Array Edge} {g:Option (Nat × Bool)} {r:AV} {s':Fr} (hg:Iy ops x.s g=some false) (hp:B3 n dst (.cond false r) x.s=some s') (next:SO P n ops rest B F K ⟨s',x.h,x.nx⟩):SO P n ops (⟨dst,op,ty,ps,af,g⟩::rest) B F K x:=by
 unfold SO at next ⊢;intro φ σ w hx;exact D9 (Mu hx.fr hg) (next φ _ w ⟨hx.fr.put hp K0,hx.rel,hx.dom,hx.old,hx.new,hx.base⟩)
theorem X0y {rest:List Oper} (hc:Nr P n ops lz H i o x=some (y,C,A)) (hC:Bk C) (hH:HOk P H) (hA:∀a,A=some a→a=Ix H i) (next:SO P n ops rest B F K y):SO P n ops (o::rest) B F K x:=by
 unfold Nr at hc;split at hc
 ·split at hc
  ·rename_i z D hz;cases hc;intro φ σ w hx;exact Vd hx hz hC fun φ' σ' w' hh e=>next φ' σ' w' hh
  ·cases hc
 ·rename_i h hh;split at hc
  ·rename_i z D a hz;cases hc;obtain⟨al,q⟩:=a;have ha:=hA _ rfl;unfold Ix at ha;rw[hh] at ha;simp only[Prod.mk.injEq] at ha;have hok:=W9 hH hh;rw[←ha.1,←ha.2] at hok;obtain⟨dst,ty,ps,af,g,ar,ts,s',rfl,hf,rfl,⟨h1,h2,h3,rfl⟩|⟨h1,h2,h3,rfl⟩⟩:=Q66 hz
   ·cases q with
    |true=>exact Y5p h1 (hok rfl).1 h2 (Q4d hC) hf (fun _=>(hok rfl).2) h3 next
    |false=>exact Y5e h1 h3 next
   ·exact Lz h1 (hok rfl).1 h2 hf (hok rfl).2 h3 next
  ·cases hc
theorem Y5t (i:Nat) {dst:Option Tmp} {op:Op} {ty:TypeId} {ps:String} {af:Array Edge} {g:Option (Nat × Bool)} {r:AV} {s':Fr} (hi:ops[i]? = some ⟨dst,op,ty,ps,af,g⟩) (hg:Iy ops x.s g=some false) (hp:B3 n dst (.cond false r) x.s=some s')
  (next:SG P n ops B F KK F0 false fuel (listed.setIfInBounds i true) ⟨s',x.h,x.nx⟩):SN P n ops B F KK F0 E fuel listed i x:=by
 intro φ σ w hx hE;refine⟨_,hi,?_⟩;unfold SG at next
 have hh':Holds B F0 n ⟨s',x.h,x.nx⟩ φ (Bn σ dst undef) w:=⟨hx.fr.put hp K0,hx.rel,hx.dom,hx.old,hx.new,hx.base⟩
 exact D9 (Mu hx.fr hg) (A0 ⟨rfl,hh'.hold,next _ _ _ hh' (fun q=>by cases q)⟩)
theorem X0z (hi:ops[i]? = some o) (hc:Nr P n ops lz H i o x=some (y,C,A)) (hC:Bk C) (hH:HOk P H) (hA:∀a,A=some a→a=Ix H i) (next:SG P n ops B F KK F0 (E&&A.isNone) fuel (listed.setIfInBounds i true) y):SN P n ops B F KK F0 E fuel listed i x:=by
 unfold Nr at hc;split at hc
 ·split at hc
  ·rename_i z D hz;cases hc;rw[show(E&&(none:Option (List AV × Bool)).isNone)=E by simp] at next;exact Q80 i lz hi hz hC next
  ·cases hc
 ·rename_i h hh;split at hc
  ·rename_i z D a hz;cases hc;rw[show(E&&(some a).isNone)=false by simp] at next;obtain⟨al,q⟩:=a;have ha:=hA _ rfl;unfold Ix at ha;rw[hh] at ha;simp only[Prod.mk.injEq] at ha;have hok:=W9 hH hh;rw[←ha.1,←ha.2] at hok;obtain⟨dst,ty,ps,af,g,ar,ts,s',rfl,hf,rfl,⟨h1,h2,h3,rfl⟩|⟨h1,h2,h3,rfl⟩⟩:=Q66 hz
   ·cases q with
    |true=>exact Y5v i hi h1 (hok rfl).1 h2 (Q4d hC) hf (fun _=>(hok rfl).2) h3 next
    |false=>exact Y5t i hi h1 h3 next
   ·exact Y5w i hi h1 (hok rfl).1 h2 hf (hok rfl).2 h3 next
  ·cases hc
noncomputable def Fg (P:Program) (n:Nat) (ops:Array Oper) (lz:List Nat) (H:List Hint) (V:List Conv) (T:List (Nat × Nat)):Nat→List Oper→St→Option (St × List (Nat × Prop) × List (Nat × List AV × Bool) × List (Nat × List AV))
 |_,[],x=>some (x,[],[],[])
 |i,o::l,x=>match Iq P i T x with
  |some x0=>match Hx i V x0 with
   |some (x1,m)=>match Nr P n ops lz H i o x1 with
    |some (y,C,A)=>match Fg P n ops lz H V T (i+1) l y with
     |some (z,cs,ms,vs)=>some (z,Ku i C cs,O0 i A ms,(i,m)::vs)
     |none=>none
    |none=>none
   |none=>none
  |none=>none
def Ni (H:List Hint) (V:List Conv) (CS:List (Nat × Prop)) (cs:List (Nat × Prop)) (ms:List (Nat × List AV × Bool)) (vs:List (Nat × List AV)):Prop :=
 (∀c∈cs,c.2=I1 CS c.1)∧(∀a∈ms,a.2=Ix H a.1)∧∀v∈vs,v.2=Hy v.1 V
theorem Vb {j:Nat} {l:List Oper}:∀{T:List (Nat × Nat)} {x y:St},Iq P j T x=some y→SO P n ops l B F K y→SO P n ops l B F K x
 |[],x,y,h,k=>by cases h;exact k
 |t::r,x,y,h,k=>by
  unfold Iq at h
  cases hb:Nat.beq t.1 j with
  |false=>rw[hb,cond_false] at h;exact Vb h k
  |true =>
   rw[hb,cond_true] at h;split at h
   ·rename_i z hz;exact Y5d _ hz (Vb h k)
   ·cases h
theorem X0 {j:Nat} {l:List Oper}:∀{V:List Conv} {x y:St} {m:List AV},VOk V→Hx j V x=some (y,m)→m=Hy j V→SO P n ops l B F K y→SO P n ops l B F K x
 |[],x,y,m,_,h,_,k=>by cases h;exact k
 |v::r,x,y,m,hV,h,hm,k=>by
  unfold Hx at h;unfold Hy at hm
  cases hb:Nat.beq v.i j with
  |false=>rw[hb,cond_false] at h hm;exact X0 hV.2 h hm k
  |true =>
   rw[hb,cond_true] at h hm;split at h
   ·rename_i a ha;split at h
    ·rename_i z m' hz;cases h;simp only[List.cons.injEq] at hm;exact J4 _ _ ha (by rw[hm.1];exact hV.1) (X0 hV.2 hz hm.2 k)
    ·cases h
   ·cases h
theorem Q0j {V:List Conv} {T:List (Nat × Nat)} {CS:List (Nat × Prop)} (hH:HOk P H) (hV:VOk V) (hCS:COk CS):∀{l rest:List Oper} {i:Nat} {x y:St} {cs:List (Nat × Prop)} {ms:List (Nat × List AV × Bool)} {vs:List (Nat × List AV)},
  Fg P n ops lz H V T i l x=some (y,cs,ms,vs)→Ni H V CS cs ms vs→SO P n ops rest B F K y→SO P n ops (l++rest) B F K x
 |[],rest,i,x,y,cs,ms,vs,h,_,k=>by cases h;exact k
 |o::l,rest,i,x,y,cs,ms,vs,h,hf,k=>by
  unfold Fg at h;split at h
  ·rename_i x0 h0;split at h
   ·rename_i x1 m h1;split at h
    ·rename_i z C A hz;split at h
     ·rename_i u cs' ms' vs' hr;simp only[Option.some.injEq,Prod.mk.injEq] at h;obtain⟨rfl,rfl,rfl,rfl⟩:=h;obtain⟨f1,f2,f3⟩:=hf
      have hC:Bk C:=by
       cases C with
       |none=>trivial
       |some p =>
        have e:p=I1 CS i:=f1 (i,p) (by simp[Ku]);show p;rw[e];exact Tv i hCS
      have hA:∀a,A=some a→a=Ix H i:=by
       rintro a rfl;exact f2 (i,a) (by simp[O0])
      have f':Ni H V CS cs' ms' vs':=by
       refine⟨fun c hc=>f1 c ?_,fun a ha=>f2 a ?_,fun v hv=>f3 v (by simp[hv])⟩
       ·cases C<;>simp[Ku,hc]
       ·cases A<;>simp[O0,ha]
      exact Vb h0 (X0 hV h1 (f3 (i,m) (by simp)) (X0y hz hC hH hA (Q0j hH hV hCS hr f' k)))
     ·cases h
    ·cases h
   ·cases h
  ·cases h
noncomputable def Gd (ts:List Nat) (r:Option (St × List (Nat × Prop) × List (Nat × List AV × Bool) × List (Nat × List AV))):Option (St × List (Nat × Prop) × List (Nat × List AV × Bool) × List (Nat × List AV)):=match r with
 |some (y,q)=>match Hi ts y.s with
  |some s=>some (⟨s,y.h,y.nx⟩,q)
  |none=>none
 |none=>none
noncomputable def stO (r:Option (St × List (Nat × Prop) × List (Nat × List AV × Bool) × List (Nat × List AV))):St:=match r with
 |some (y,_)=>y
 |none=>⟨[],[],0⟩
noncomputable def L5 (H:List Hint) (V:List Conv) (CS:List (Nat × Prop)) (r:Option (St × List (Nat × Prop) × List (Nat × List AV × Bool) × List (Nat × List AV))):Option (List (Nat × Prop) × List (Nat × List AV × Bool) × List (Nat × List AV)):=match r with
 |some (_,cs,ms,vs)=>some (cs.map fun c=>(c.1,I1 CS c.1),ms.map fun a=>(a.1,Ix H a.1),vs.map fun v=>(v.1,Hy v.1 V))
 |none=>some ([],[(0,[],true)],[])
noncomputable def M4 (r:Option (St × List (Nat × Prop) × List (Nat × List AV × Bool) × List (Nat × List AV))):Option (List (Nat × Prop) × List (Nat × List AV × Bool) × List (Nat × List AV)):=match r with
 |some (_,q)=>some q
 |none=>none
theorem Ob {α β:Type} {l:List (α × β)} {f:α→β} (h:l=l.map fun c=>(c.1,f c.1)):∀c∈l,c.2=f c.1:=by
 intro c hc;rw[h] at hc;obtain⟨d,_,rfl⟩:=List.mem_map.1 hc;rfl
theorem X0b {V:List Conv} {CS:List (Nat × Prop)} {r:Option (St × List (Nat × Prop) × List (Nat × List AV × Bool) × List (Nat × List AV))} (h:M4 r=L5 H V CS r):∃y cs ms vs,r=some (y,cs,ms,vs)∧Ni H V CS cs ms vs:=by
 cases r with
 |none=>cases h
 |some q =>
  obtain⟨y,cs,ms,vs⟩:=q;simp only[M4,L5,Option.some.injEq,Prod.mk.injEq] at h;exact⟨y,cs,ms,vs,rfl,Ob (f:=I1 CS) h.1,Ob (f:=Ix H) h.2.1,Ob (f:=fun j=>Hy j V) h.2.2⟩
theorem A9 {V:List Conv} {CS:List (Nat × Prop)} {l:List Oper} (k i:Nat) (lz ts:List Nat) (T:List (Nat × Nat)) (hH:HOk P H) (hV:VOk V) (hCS:COk CS) (next:SO P n ops (l.drop k) B F K (stO (Gd ts (Fg P n ops lz H V T i (l.take k) x))))
  (h:M4 (Gd ts (Fg P n ops lz H V T i (l.take k) x))=L5 H V CS (Gd ts (Fg P n ops lz H V T i (l.take k) x)):=by kernel_rfl):SO P n ops l B F K x:=by
 obtain⟨y,cs,ms,vs,hr,hf⟩:=X0b h;rw[hr] at next;unfold Gd at hr;split at hr
 ·rename_i z q hz;split at hr
  ·rename_i s hs;simp only[Option.some.injEq,Prod.mk.injEq] at hr;obtain⟨rfl,rfl⟩:=hr;have:=Q0j (rest:=l.drop k) hH hV hCS hz hf (fun φ σ w hx=>next φ σ w (hx.sel hs));rwa [List.take_append_drop] at this
  ·cases hr
 ·cases hr
theorem An {V:List Conv} {CS:List (Nat × Prop)} {l:List Oper} (i:Nat) (lz ts:List Nat) (T:List (Nat × Nat)) (hH:HOk P H) (hV:VOk V) (hCS:COk CS) (next:K .normal (stO (Gd ts (Fg P n ops lz H V T i l x))))
  (h:M4 (Gd ts (Fg P n ops lz H V T i l x))=L5 H V CS (Gd ts (Fg P n ops lz H V T i l x)):=by kernel_rfl):SO P n ops l B F K x:=by
 refine A9 l.length i lz ts T hH hV hCS ?_ ?_
 ·rw[List.take_length,List.drop_length];exact Bd next
 ·rw[List.take_length];exact h
theorem Ex {l:List Oper} (lz ts:List Nat) (next:K .normal (stO (Gd ts (Fg P n ops lz [] [] [] 0 l x)))) (h:M4 (Gd ts (Fg P n ops lz [] [] [] 0 l x))=L5 [] [] [] (Gd ts (Fg P n ops lz [] [] [] 0 l x)):=by kernel_rfl):SO P n ops l B F K x:=An 0 lz ts [] hk0 v0 c0 next h
theorem Ac {V:List Conv} {CS:List (Nat × Prop)} {id:Nat} {l:List Oper} {d:Code} (lz ts:List Nat) (T:List (Nat × Nat)) (hH:HOk P H) (hV:VOk V) (hCS:COk CS) (next:SW P n d B F K (stO (Gd ts (Fg P n l.toArray lz H V T 0 l x))))
  (h:M4 (Gd ts (Fg P n l.toArray lz H V T 0 l x))=L5 H V CS (Gd ts (Fg P n l.toArray lz H V T 0 l x)):=by kernel_rfl):SW P n (.seq (.region id l.toArray false) d) B F K x:=Ab (Aj (An 0 lz ts T hH hV hCS next h))
theorem Aa {id:Nat} {l:List Oper} {d:Code} (lz ts:List Nat) (next:SW P n d B F K (stO (Gd ts (Fg P n l.toArray lz [] [] [] 0 l x)))) (h:M4 (Gd ts (Fg P n l.toArray lz [] [] [] 0 l x))=L5 [] [] [] (Gd ts (Fg P n l.toArray lz [] [] [] 0 l x)):=by kernel_rfl) :
  SW P n (.seq (.region id l.toArray false) d) B F K x:=Ac lz ts [] hk0 v0 c0 next h
end
theorem Aq:(∀a b:Bool,((a&&b)=true)=(a=true∧b=true))∧(∀a b:Bool,((a||b)=true)=(a=true∨b=true))∧(∀x y:Bool,((x&&y)=false)=(x=false∨y=false))∧(∀x y:Bool,((x||y)=false)=(x=false∧y=false))∧(∀b:Bool,((!b)=true)=(b=false))∧(∀b:Bool,((!b)=false)=(b=true))∧(∀(p:Prop) [Decidable p],(decide p=true)=p)∧(∀(p:Prop) [Decidable p],(decide p=false) = ¬p) :=
 ⟨fun a b=>by simp,fun a b=>by simp,fun x y=>by cases x<;>simp,fun a b=>by simp,fun b=>by simp,fun b=>by simp,fun p _=>by simp,fun p _=>by simp⟩
abbrev L0:=List St × List (Nat × Prop) × List (Nat × List AV × Bool) × List (Nat × List AV)
noncomputable def noT (i:Nat):List (Nat × Nat)→Bool
 |[]=>true
 |t::l => !Nat.beq t.1 i&&noT i l
noncomputable def Q65:Op→Bool
 |.call { callee:=.value _,args:=_,argTypes:=_ }=>true
 |_=>false
noncomputable def Kk (P:Program) (E:Bool) (n:Nat) (ops:Array Oper) (lz:List Nat) (V:List Conv) (T:List (Nat × Nat)) (listed:Array Bool) (x:St):List Nat→Option (Nat × List AV × St × Option Prop)
 |[]=>none
 |i::l=>bif Region.free .any ops listed i&&noT i T then (match ops[i]? with
  |some o=>bif Q65 o.op then Kk P E n ops lz V T listed x l else (match Hx i V x with
   |some (x1,m)=>match Ns P E n ops lz o x1 with
    |some (y,C)=>some (i,m,y,C)
    |none=>Kk P E n ops lz V T listed x l
   |none=>Kk P E n ops lz V T listed x l)
  |none=>Kk P E n ops lz V T listed x l) else Kk P E n ops lz V T listed x l
noncomputable def T7 (f:Nat→Option L0):List Nat→Option L0
 |[]=>some ([],[],[],[])
 |i::l=>match f i with
  |some (a,b,c,d)=>match T7 f l with
   |some (a',b',c',d')=>some (a++a',b++b',c++c',d++d')
   |none=>none
  |none=>none
noncomputable def H9 (P:Program) (n:Nat) (ops:Array Oper) (lz ts:List Nat) (H:List Hint) (V:List Conv) (T:List (Nat × Nat)):Nat→Bool→Array Bool→St→Option L0
 |0,E,listed,x=>match Region.ready .any ops listed with
  |[]=>match Hi ts x.s with
   |some s=>some ([⟨s,x.h,x.nx⟩],[],[],[])
   |none=>none
  |_::_=>none
 |fuel+1,E,listed,x=>match Region.ready .any ops listed with
  |[]=>match Hi ts x.s with
   |some s=>some ([⟨s,x.h,x.nx⟩],[],[],[])
   |none=>none
  |a::l=>match Kk P E n ops lz V T listed x (a::l) with
   |some (i,m,y,C)=>match H9 P n ops lz ts H V T fuel E (listed.setIfInBounds i true) y with
    |some (fs,cs,ms,vs)=>some (fs,Ku i C cs,ms,(i,m)::vs)
    |none=>none
   |none=>T7 (fun i=>match ops[i]? with
    |some o=>match Iq P i T x with
     |some x0=>match Hx i V x0 with
      |some (x1,m)=>match Nr P n ops lz H i o x1 with
       |some (y,C,A)=>match H9 P n ops lz ts H V T fuel (E&&noT i T&&A.isNone) (listed.setIfInBounds i true) y with
        |some (fs,cs,ms,vs)=>some (fs,Ku i C cs,O0 i A ms,(i,m)::vs)
        |none=>none
       |none=>none
      |none=>none
     |none=>none
    |none=>none) (a::l)
section
variable {P : Program} {B : Bas} {w : World} {F F0 : Cx} {n : Nat} {φ : Phi} {σ : Nat → Value} {K : Exit → St → Prop} {KK : St → Prop} {x y : St} {E : Bool} {ops : Array Oper} {fuel : Nat} {listed : Array Bool} {H : List Hint} {V : List Conv} {T : List (Nat × Nat)} {CS : List (Nat × Prop)} {lz ts : List Nat} {i : Nat} {o : Oper} {C : Option Prop} {A : Option (List AV × Bool)}
theorem Zw {j:Nat}:∀{T:List (Nat × Nat)} {x y:St},Iq P j T x=some y→noT j T=true→y=x
 |[],x,y,h,_=>by cases h;rfl
 |t::r,x,y,h,k=>by
  unfold noT at k;simp only[Bool.and_eq_true,Bool.not_eq_true'] at k;unfold Iq at h;rw[k.1,cond_false] at h;exact Zw h k.2
theorem Va {j:Nat}:∀{T:List (Nat × Nat)} {x y:St} {φ:Phi},Iq P j T x=some y→Holds B F n x φ σ w→∃φ',Holds B F n y φ' σ w
 |[],x,y,φ,h,hx=>by cases h;exact⟨φ,hx⟩
 |t::l,x,y,φ,h,hx=>by
  unfold Iq at h
  cases hb:Nat.beq t.1 j with
  |false=>rw[hb,cond_false] at h;exact Va h hx
  |true =>
   rw[hb,cond_true] at h;split at h
   ·rename_i z hz;obtain⟨φ',h'⟩:=hx.still hz;exact Va h h'
   ·cases h
theorem Ua {j:Nat}:∀{V:List Conv} {x y:St} {m:List AV},VOk V→Hx j V x=some (y,m)→m=Hy j V→Holds B F n x φ σ w→Holds B F n y φ σ w
 |[],x,y,m,_,h,_,hx=>by cases h;exact hx
 |v::l,x,y,m,hV,h,hm,hx=>by
  unfold Hx at h;unfold Hy at hm
  cases hb:Nat.beq v.i j with
  |false=>rw[hb,cond_false] at h hm;exact Ua hV.2 h hm hx
  |true =>
   rw[hb,cond_true] at h hm;split at h
   ·rename_i a ha;split at h
    ·rename_i z m' hz;cases h;simp only[List.cons.injEq] at hm;exact Ua hV.2 hz hm.2 (hx.conv ha (by rw[hm.1];exact hV.1))
    ·cases h
   ·cases h
theorem Q4v:∀{l:List Nat} {i:Nat} {m:List AV} {y:St} {C:Option Prop},Kk P E n ops lz V T listed x l=some (i,m,y,C)→i∈l∧Region.free .any ops listed i=true∧∃o x1,ops[i]? = some o∧Hx i V x=some (x1,m)∧Ns P E n ops lz o x1=some (y,C)
 |[],i,m,y,C,h=>by cases h
 |a::l,i,m,y,C,h=>by
  have more:Kk P E n ops lz V T listed x l=some (i,m,y,C)→i∈a::l∧Region.free .any ops listed i=true∧∃o x1,ops[i]? = some o∧Hx i V x=some (x1,m)∧Ns P E n ops lz o x1=some (y,C):=fun k=>by
   obtain⟨k1,k2⟩:=Q4v k;exact⟨List.mem_cons_of_mem _ k1,k2⟩
  unfold Kk at h
  cases hb:Region.free .any ops listed a&&noT a T with
  |false=>rw[hb,cond_false] at h;exact more h
  |true =>
   rw[hb,cond_true] at h;simp only[Bool.and_eq_true] at hb;split at h
   ·rename_i o ho
    cases hk:Q65 o.op with
    |true=>rw[hk,cond_true] at h;exact more h
    |false =>
     rw[hk,cond_false] at h;split at h
     ·rename_i x1 m1 hx1;split at h
      ·rename_i y1 C1 hy1;simp only[Option.some.injEq,Prod.mk.injEq] at h;obtain⟨rfl,rfl,rfl,rfl⟩:=h;exact⟨List.mem_cons_self,hb.1,o,x1,ho,hx1,hy1⟩
      ·exact more h
     ·exact more h
   ·exact more h
theorem Q6g {f:Nat→Option L0}:∀{l:List Nat} {a:List St} {b:List (Nat × Prop)} {c:List (Nat × List AV × Bool)} {d:List (Nat × List AV)},T7 f l=some (a,b,c,d) →
  ∀i∈l,∃a' b' c' d',f i=some (a',b',c',d')∧(∀y∈a',y∈a)∧(∀y∈b',y∈b)∧(∀y∈c',y∈c)∧∀y∈d',y∈d
 |[],a,b,c,d,h,i,hi=>by cases hi
 |j::l,a,b,c,d,h,i,hi=>by
  unfold T7 at h;split at h
  ·rename_i a1 b1 c1 d1 h1;split at h
   ·rename_i a2 b2 c2 d2 h2;simp only[Option.some.injEq,Prod.mk.injEq] at h;obtain⟨rfl,rfl,rfl,rfl⟩:=h;rcases List.mem_cons.1 hi with rfl|hi
    ·exact⟨a1,b1,c1,d1,h1,fun y hy=>List.mem_append_left _ hy,fun y hy=>List.mem_append_left _ hy,fun y hy=>List.mem_append_left _ hy,fun y hy=>List.mem_append_left _ hy⟩
    ·obtain⟨a',b',c',d',k1,k2,k3,k4,k5⟩:=Q6g h2 i hi;exact⟨a',b',c',d',k1,fun y hy=>List.mem_append_right _ (k2 y hy),fun y hy=>List.mem_append_right _ (k3 y hy),fun y hy=>List.mem_append_right _ (k4 y hy),fun y hy=>List.mem_append_right _ (k5 y hy)⟩
   ·cases h
  ·cases h
theorem Y50 {l:List Nat} (hr:Region.ready .any ops listed=l) (hl:l≠[]) (h:∀i∈l,SN P n ops B F KK F0 E fuel listed i x):SG P n ops B F KK F0 E (fuel+1) listed x:=by
 unfold SG;intro φ σ w hx hE;exact Um hr hl fun k hk=>h k hk φ σ w hx hE
theorem Y51 {m:List AV} (hV:VOk V) (h:Hx i V x=some (y,m)) (hm:m=Hy i V) (k:SG P n ops B F KK F0 E fuel listed y):SG P n ops B F KK F0 E fuel listed x:=by
 unfold SG at k ⊢;exact fun φ σ w hx hE=>k φ σ w (Ua hV h hm hx) hE
theorem Y5u {m:List AV} {j:Nat} (hV:VOk V) (h:Hx j V x=some (y,m)) (hm:m=Hy j V) (k:SN P n ops B F KK F0 E fuel listed i y):SN P n ops B F KK F0 E fuel listed i x :=
 fun φ σ w hx hE=>k φ σ w (Ua hV h hm hx) hE
theorem Y5s {j:Nat} (h:Iq P j T x=some y) (k:SN P n ops B F KK F0 (E&&noT j T) fuel listed i y):SN P n ops B F KK F0 E fuel listed i x:=by
 intro φ σ w hx hE
 cases hn:noT j T with
 |true =>
  have:=Zw h hn;subst this;rw[hn,Bool.and_true] at k;exact k φ σ w hx hE
 |false =>
  rw[hn,Bool.and_false] at k;obtain⟨φ',h'⟩:=Va h hx;obtain⟨o,h1,h2⟩:=k φ' σ w h' (fun q=>by cases q);exact⟨o,h1,h2⟩
theorem X3u (hs:Region.noSelect ops=true) (hH:HOk P H) (hV:VOk V) (hCS:COk CS):∀{fuel:Nat} {E:Bool} {listed:Array Bool} {x:St} {fs:List St} {cs:List (Nat × Prop)} {ms:List (Nat × List AV × Bool)} {vs:List (Nat × List AV)},
  H9 P n ops lz ts H V T fuel E listed x=some (fs,cs,ms,vs)→Ni H V CS cs ms vs→(∀y∈fs,KK y)→SG P n ops B F KK F0 E fuel listed x:=by
 have fin:∀{fuel:Nat} {E:Bool} {listed:Array Bool} {x:St} {fs:List St} {cs:List (Nat × Prop)} {ms:List (Nat × List AV × Bool)} {vs:List (Nat × List AV)},Region.ready .any ops listed=[] →
   (match Hi ts x.s with|some s=>some (([⟨s,x.h,x.nx⟩],[],[],[]):L0)|none=>none)=some (fs,cs,ms,vs)→(∀y∈fs,KK y)→SG P n ops B F KK F0 E fuel listed x:=by
  intro fuel E listed x fs cs ms vs hr h hk;split at h
  ·rename_i s hsel;simp only[Option.some.injEq,Prod.mk.injEq] at h;obtain⟨rfl,_⟩:=h;exact Yu ts hsel (Ek hr (hk _ (by simp)))
  ·cases h
 intro fuel
 induction fuel with
 |zero =>
  intro E listed x fs cs ms vs h hf hk;unfold H9 at h;split at h
  ·rename_i hr;exact fin hr h hk
  ·cases h
 |succ fuel ih =>
  intro E listed x fs cs ms vs h hf hk;unfold H9 at h;split at h
  ·rename_i hr;exact fin hr h hk
  ·rename_i a l hr;obtain⟨f1,f2,f3⟩:=hf;split at h
   ·rename_i i m y C hfi;split at h
    ·rename_i fs' cs' ms' vs' hrec;simp only[Option.some.injEq,Prod.mk.injEq] at h;obtain⟨rfl,rfl,rfl,rfl⟩:=h;obtain⟨hi,hfree,o,x1,ho,hx1,hy⟩:=Q4v hfi
     have hC:Bk C:=by
      cases C with
      |none=>trivial
      |some p =>
       have e:p=I1 CS i:=f1 (i,p) (by simp[Ku]);show p;rw[e];exact Tv i hCS
     have f':Ni H V CS cs' ms' vs':=by
      refine⟨fun c hc=>f1 c ?_,f2,fun v hv=>f3 v (by simp[hv])⟩;cases C<;>simp[Ku,hc]
     exact Y51 hV hx1 (f3 (i,m) (by simp)) (Q82 i lz ho hs hfree (by rw[hr];simpa using hi) hy hC (ih hrec f' hk))
    ·cases h
   ·refine Y50 hr (by simp) fun i hi=>?_;obtain⟨fs1,cs1,ms1,vs1,h1,g1,g2,g3,g4⟩:=Q6g h i hi;split at h1
    ·rename_i o ho;split at h1
     ·rename_i x0 hx0;split at h1
      ·rename_i x1 m hx1;split at h1
       ·rename_i y C A hy;split at h1
        ·rename_i fs' cs' ms' vs' hrec;simp only[Option.some.injEq,Prod.mk.injEq] at h1;obtain⟨rfl,rfl,rfl,rfl⟩:=h1
         have hC:Bk C:=by
          cases C with
          |none=>trivial
          |some p =>
           have e:p=I1 CS i:=f1 (i,p) (g2 _ (by simp[Ku]));show p;rw[e];exact Tv i hCS
         have hA:∀a,A=some a→a=Ix H i:=by
          rintro a rfl;exact f2 (i,a) (g3 _ (by simp[O0]))
         have f':Ni H V CS cs' ms' vs':=by
          refine⟨fun c hc=>f1 c (g2 _ ?_),fun a ha=>f2 a (g3 _ ?_),fun v hv=>f3 v (g4 _ (by simp[hv]))⟩
          ·cases C<;>simp[Ku,hc]
          ·cases A<;>simp[O0,ha]
         exact Y5s hx0 (Y5u hV hx1 (f3 (i,m) (g4 _ (by simp))) (X0z ho hy hC hH hA (ih hrec f' fun y hy=>hk y (g1 y hy))))
        ·cases h1
       ·cases h1
      ·cases h1
     ·cases h1
    ·cases h1
noncomputable def stD (r:Option L0):St:=match r with
 |some (y::_,_)=>y
 |_=>⟨[],[],0⟩
noncomputable def U3 (H:List Hint) (V:List Conv) (CS:List (Nat × Prop)) (r:Option L0):Option L0:=match r with
 |some (fs,cs,ms,vs)=>some (fs.map fun _=>stD r,cs.map fun c=>(c.1,I1 CS c.1),ms.map fun a=>(a.1,Ix H a.1),vs.map fun v=>(v.1,Hy v.1 V))
 |none=>some ([],[],[],[])
theorem Hf {id:Nat} {l:List Oper} (lz ts:List Nat) (T:List (Nat × Nat)) (hH:HOk P H) (hV:VOk V) (hCS:COk CS) (next:K .normal (stD (H9 P n l.toArray lz ts H V T l.length true (Array.replicate l.length false) x)))
  (hm:P.follows .mixedOrders=true:=by kernel_rfl) (hs:Region.noSelect l.toArray=true:=by kernel_rfl)
  (h:H9 P n l.toArray lz ts H V T l.length true (Array.replicate l.length false) x=U3 H V CS (H9 P n l.toArray lz ts H V T l.length true (Array.replicate l.length false) x):=by kernel_rfl):SW P n (.region id l.toArray true) B F K x:=by
 refine E5 hm fun F0 _=>?_
 cases hr:H9 P n l.toArray lz ts H V T l.length true (Array.replicate l.length false) x with
 |none=>rw[hr] at h;cases h
 |some q =>
  obtain⟨fs,cs,ms,vs⟩:=q;rw[hr] at h next;simp only[U3,Option.some.injEq,Prod.mk.injEq] at h;refine X3u hs hH hV hCS hr ⟨Ob (f:=I1 CS) h.2.1,Ob (f:=Ix H) h.2.2.1,Ob (f:=fun j=>Hy j V) h.2.2.2⟩ fun y hy=>?_;rw[h.1] at hy;obtain⟨_,_,rfl⟩:=List.mem_map.1 hy;exact next
theorem Da {id:Nat} {l:List Oper} {d:Code} (lz ts:List Nat) (T:List (Nat × Nat)) (hH:HOk P H) (hV:VOk V) (hCS:COk CS) (next:SW P n d B F K (stD (H9 P n l.toArray lz ts H V T l.length true (Array.replicate l.length false) x)))
  (hm:P.follows .mixedOrders=true:=by kernel_rfl) (hs:Region.noSelect l.toArray=true:=by kernel_rfl)
  (h:H9 P n l.toArray lz ts H V T l.length true (Array.replicate l.length false) x=U3 H V CS (H9 P n l.toArray lz ts H V T l.length true (Array.replicate l.length false) x):=by kernel_rfl):SW P n (.seq (.region id l.toArray true) d) B F K x:=Ab (Hf lz ts T hH hV hCS next hm hs h)
noncomputable def gcD (ts:List Nat) (m:Nat) (x:St):St:=match gcS ts m x with
 |some y=>y
 |none=>⟨[],[],0⟩
noncomputable def gcB (ts:List Nat) (m:Nat) (x:St):Bool:=match gcS ts m x with
 |some _=>true
 |none=>false
theorem W4 {m:Nat} (h:gcB ts m x=true):gcS ts m x=some (gcD ts m x):=by
 unfold gcB at h;unfold gcD;split at h
 ·rename_i y hy;rw[hy]
 ·cases h
theorem B4 {c:Code} (I:Nat→St→Prop) (ts:List Nat) (m g:Nat) (hlo:F.lo≤m) (h0:I g (gcD ts m x)) (round:∀g y,I g y→SW P n c B F (K8 (fun z=>gcB ts m z=true∧∃g',g' < g∧I g' (gcD ts m z)) K) y) (k:gcB ts m x=true:=by kernel_rfl):SW P n (.loop c) B F K x :=
 Y45 I ts m g hlo (W4 k) h0 fun g y hI=>Q8s (round g y hI) fun e z hz=>by
  cases e with
  |normal=>obtain⟨h1,g',h2,h3⟩:=hz;exact⟨_,W4 h1,g',h2,h3⟩
  |_=>exact hz
theorem Ev {c d:Code} (I:St→Prop) (ts:List Nat) (m:Nat) (hlo:F.lo≤m) (h:SW P n c B F (K8 (fun z=>gcB ts m z=true∧I (gcD ts m z)) K) x) (r:∀y,I y→SW P n d B F K y):SW P n (.seq c d) B F K x :=
 Y47 (fun z=>gcB ts m z=true∧I (gcD ts m z)) h fun z hz=>Re ts m hlo (W4 hz.1) (r _ hz.2)
theorem RK {rs:List ResultVar} {r:AV} {e:Exit} (he:e = .ret∨e = .normal) (rl:List AV) (h3:Same (Ag rl) r)
  (h:(match H3 P rs x with|some al=>(match frzVl P x.h al with|some q=>some q.1|none=>none)|none=>none)=some rl:=by kernel_rfl):Ps P rs r e x:=by
 split at h
 ·rename_i al ha;split at h
  ·rename_i q hq;obtain⟨rl',h'⟩:=q;cases h;exact X2k he ha hq h3
  ·cases h
 ·cases h
end
theorem S8 {q:Bool} {c:Option Prop} (p:Option Prop) (h:c=p) (k:q=true→Bk p):q=true→Bk c:=by subst h;exact k
noncomputable def Sg:AV→Nat→AV
 |.row _ _ g=>g
 |_=>fun _=>Bl
theorem wR:Exit.ret = .ret∨Exit.ret = .normal:=.inl rfl
theorem wN:Exit.normal = .ret∨Exit.normal = .normal:=.inr rfl
noncomputable def L6 (P:Program) (n:Nat) (ops:Array Oper) (lz:List Nat) (i:Nat) (x:St):Option (St × Option Prop):=match ops[i]? with
 |some o=>K7 P n ops lz o x
 |none=>none
noncomputable def stR (r:Option (St × Option Prop)):St:=match r with
 |some (y,_)=>y
 |none=>⟨[],[],0⟩
noncomputable def X1 (r:Option (St × Option Prop)):Option Prop:=match r with
 |some (_,C)=>C
 |none=>some False
noncomputable def stL (r:Option (St × Option Prop × Array Bool)):St:=match r with
 |some (y,_)=>y
 |none=>⟨[],[],0⟩
noncomputable def Y2b (r:Option (St × Option Prop × Array Bool)):Option Prop:=match r with
 |some (_,C,_)=>C
 |none=>some False
noncomputable def lsL (r:Option (St × Option Prop × Array Bool)):Array Bool:=match r with
 |some (_,_,L)=>L
 |none => #[]
noncomputable def Q0c (ts:List Nat) (s:Fr):Fr:=match Hi ts s with
 |some r=>r
 |none=>[]
noncomputable def Q0d (ts:List Nat) (s:Fr):Bool:=match Hi ts s with
 |some _=>true
 |none=>false
noncomputable def lsD (n:Nat) (l:List Nat):Array Bool:=l.foldl (fun a i=>a.setIfInBounds i true) (Array.replicate n false)
section
variable {P : Program} {B : Bas} {w : World} {F F0 : Cx} {n : Nat} {KK : St → Prop} {x : St} {E : Bool} {ops : Array Oper} {fuel fuel' : Nat} {listed : Array Bool} {C : Option Prop}
theorem Zy {lz:List Nat} {i:Nat} (h:X1 (L6 P n ops lz i x)=C) (hC:Bk C):∃o,ops[i]? = some o∧K7 P n ops lz o x=some (stR (L6 P n ops lz i x),C):=by
 unfold L6 at h ⊢;split at h
 ·rename_i o ho;refine⟨o,ho,?_⟩
  cases hs:K7 P n ops lz o x with
  |none=>rw[hs] at h;subst h;exact hC.elim
  |some q=>obtain⟨y,D⟩:=q;rw[hs] at h;subst h;rfl
 ·subst h;exact hC.elim
theorem A8 (i:Nat) (lz:List Nat) (hC:Bk C) (next:SG P n ops B F KK F0 E fuel (listed.setIfInBounds i true) (stR (L6 P n ops lz i x))) (h:X1 (L6 P n ops lz i x)=C:=by kernel_rfl):SN P n ops B F KK F0 E fuel listed i x:=by
 obtain⟨o,h1,h2⟩:=Zy h hC;exact Q80 i lz h1 h2 hC next
theorem C8 (i:Nat) (lz:List Nat) (hC:Bk C) (next:SG P n ops B F KK F0 E fuel (listed.setIfInBounds i true) (stR (L6 P n ops lz i x))) (hr:Region.ready .any ops listed=[i]:=by kernel_rfl) (h:X1 (L6 P n ops lz i x)=C:=by kernel_rfl):SG P n ops B F KK F0 E (fuel+1) listed x:=by
 obtain⟨o,h1,h2⟩:=Zy h hC;exact Y5x i lz hr h1 h2 hC next
theorem Ao (ts:List Nat) (next:SG P n ops B F KK F0 E fuel listed ⟨Q0c ts x.s,x.h,x.nx⟩) (h:Q0d ts x.s=true:=by kernel_rfl):SG P n ops B F KK F0 E fuel listed x:=by
 unfold Q0d at h;unfold Q0c at next;split at h
 ·rename_i r hr;rw[hr] at next;exact Yu ts hr next
 ·cases h
theorem Cb (lz is ts:List Nat) (hC:Bk C) (next:SG P n ops B F KK F0 E fuel (lsL (Ok P E n ops lz is ts listed x)) (stL (Ok P E n ops lz is ts listed x))) (hs:Region.noSelect ops=true:=by kernel_rfl) (hf:fuel'=fuel+is.length:=by kernel_rfl)
  (h:Y2b (Ok P E n ops lz is ts listed x)=C:=by kernel_rfl):SG P n ops B F KK F0 E fuel' listed x:=by
 cases hq:Ok P E n ops lz is ts listed x with
 |none=>rw[hq] at h;subst h;exact hC.elim
 |some q =>
  obtain⟨y,D,L⟩:=q;rw[hq] at h next;subst h;exact Y5z is ts hs hq hf hC next
theorem A6 {E':Bool} {fuel':Nat} {listed':Array Bool} {x':St} (m:SG P n ops B F KK F0 E' fuel' listed' x') (hE:E'=E:=by kernel_rfl) (hf:fuel'=fuel:=by kernel_rfl) (hl:listed'=listed:=by kernel_rfl) (hx:x'=x:=by kernel_rfl):SG P n ops B F KK F0 E fuel listed x:=Y5y m hE hf hl hx
end
noncomputable def mis:List (AV × AV × Nat)→Option (List (Int × Int))
 |[]=>some []
 |(.int .i64 k,.int .i64 a,_)::r=>match mis r with
  |some l=>some ((k,a)::l)
  |none=>none
 |_=>none
theorem Wj {φ:Phi}:∀{es:List (AV × AV × Nat)} {l:List MapEntry} {m:List (Int × Int)},MR φ es l→mis es=some m→l.map (fun e=>(e.key,e.val))=Ds I64 I64 m
 |[],_,_,h,k=>by cases k;simp only[MR] at h;subst h;rfl
 |(a,v,c)::r,_,_,h,k=>by
  simp only[MR] at h;obtain⟨e,l',rfl,h1,h2,_,h4⟩:=h;unfold mis at k;split at k
  ·cases ‹_=[]›
  ·rename_i q;cases q;split at k
   ·rename_i hm;cases k;simp only[VR] at h1 h2;simp only[List.map_cons,Ds,Wj h4 hm,h1,h2]
   ·cases k
  ·cases k
theorem MR.snoc {φ:Phi} {a v:AV} {e:MapEntry} (h1:VR φ a e.key) (h2:VR φ v e.val):∀{es:List (AV × AV × Nat)} {l:List MapEntry},MR φ es l→MR φ (es++[(a,v,e.born)]) (l++[e])
 |[],_,h=>by simp only[MR] at h;subst h;simp only[List.nil_append,MR];exact⟨e,[],rfl,h1,h2,rfl,rfl⟩
 |(b,u,c)::r,_,h=>by
  simp only[MR] at h;obtain⟨e',l',rfl,k1,k2,k3,k4⟩:=h;simp only[List.cons_append,MR];exact⟨e',_,rfl,k1,k2,k3,MR.snoc h1 h2 k4⟩
section
variable {P : Program} {B : Bas} {w : World} {F : Cx} {n : Nat} {φ : Phi} {σ : Nat → Value} {K : Exit → St → Prop} {x : St} {ops : Array Oper}
theorem Q8v {rest:List Oper} {t kt et:TypeId} {X I Y:Operand} {ty:TypeId} {ps:String} {af:Array Edge} {g:Option (Nat × Bool)} {b c:Nat} {es:List (AV × AV × Nat)} {m:List (Int × Int)} {k a:Int}
  (hg:Cp ops x.s g=true) (hX:evA x.s X=some (.map b)) (hI:evA x.s I=some (.int .i64 k)) (hY:evA x.s Y=some (.int .i64 a)) (hb:A3 b x.h=some (.map es c)) (hm:mis es=some m) (hn:Bj m k=none)
  (ht:P.underlying t=some (.map kt et)) (hk:P.underlying kt=some (.int .i64)) (next:SO P n ops rest B F K ⟨x.s,B1 b (.map (es++[(.int .i64 k,.int .i64 a,c)]) (c+1)) x.h,x.nx⟩):SO P n ops (⟨none,.insert t X I Y,ty,ps,af,g⟩::rest) B F K x:=by
 intro φ σ w hx;have v1:=hx.fr.ev _ _ hX;have v2:=hx.fr.ev _ _ hI;have v3:=hx.fr.ev _ _ hY;simp only[VR] at v1 v2 v3;obtain⟨x0,κ,e0,v1⟩:=v1;obtain⟨x1,κ1,l,h1,h2,h3⟩:=hx.rel.obj b _ hb;rw[e0] at h1;cases h1;have he:=Wj h3 hm;obtain⟨r,f1,f2,f3⟩:=Nv (Od hk) k l.toList m he w;rw[hn] at f2;have hc:=(Od hk).check false 9999 k w;have hlt:x0 < w.heap.size:=Dl h2
 cases r with
 |some p=>simp at f2
 |none =>
  refine Hd (w':={ w with heap:=w.heap.setIfInBounds x0 (.map (l.push { key:=I64 k,val:=I64 a,born:=c }) (c+1)) }) (Cs hx.fr hg) ?_ (next φ _ _ ⟨hx.fr,?_,hx.dom,hx.old,hx.new,hx.base⟩)
  ·have v2':ev n σ I=I64 k:=v2;have v3':ev n σ Y=I64 a:=v3;simp[execOp,v1,v2',v3',Instr.mapUpdate,run_underlying ht,getObj,setObj,Sem.run,h2,hc,f1,go_sem]
  ·refine hx.rel.set hb rfl rfl e0 rfl rfl rfl (by simp) (fun j hj=>by simp[Array.getElem?_setIfInBounds,Ne.symm hj]) ⟨x0,κ,_,e0,(by simp[hlt];rfl),?_⟩;rw[Array.toList_push];exact MR.snoc (e:={ key:=I64 k,val:=I64 a,born:=c }) (by simp only[VR]) (by simp only[VR]) h3
theorem Y5j {rest:List Oper} {t kt et:TypeId} {X I:Operand} {dst:Option Tmp} {ty:TypeId} {ps:String} {af:Array Edge} {g:Option (Nat × Bool)} {b c:Nat} {es:List (AV × AV × Nat)} {m:List (Int × Int)} {k r:Int} {s':Fr}
  (hg:Cp ops x.s g=true) (hX:evA x.s X=some (.map b)) (hI:evA x.s I=some (.int .i64 k)) (hb:A3 b x.h=some (.map es c)) (hm:mis es=some m)
  (ht:P.underlying t=some (.map kt et)) (hk:P.underlying kt=some (.int .i64)) (hz:∀w,(zeroValue et).run P w = .ok (.int .i64 0) w) (hr:(Bj m k).getD 0=r)
  (hp:B3 n dst (.int .i64 r) x.s=some s') (next:SO P n ops rest B F K ⟨s',Cr b x.h,x.nx⟩):SO P n ops (⟨dst,.lookup t X I false,ty,ps,af,g⟩::rest) B F K x:=by
 intro φ σ w hx;have v1:=hx.fr.ev _ _ hX;have v2:=hx.fr.ev _ _ hI;simp only[VR] at v1 v2;obtain⟨x0,κ,e0,v1⟩:=v1;obtain⟨x1,κ1,l,h1,h2,h3⟩:=hx.rel.obj b _ hb;rw[e0] at h1;cases h1;have he:=Wj h3 hm;refine B8 (Cs hx.fr hg) (Uu (enc:=I64) (val:=I64) (k:=k) (m:=m) v1 v2 ⟨_,_,h2,he⟩ (Od hk) ht hz) (next φ _ w ⟨hx.fr.put hp ?_,hx.rel.del b,hx.dom,hx.old,hx.new,hx.base⟩);rw[←hr];cases Bj m k<;>simp[VR,I64]
end
section
variable {P : Program} {n : Nat} {φ : Phi} {σ : Nat → Value}
end
section
variable {P : Program} {B : Bas} {w : World} {F F0 : Cx} {n : Nat} {φ : Phi} {σ : Nat → Value} {K : Exit → St → Prop} {x y : St} {ops : Array Oper}
theorem Y5 {z:Value} {sz k:Nat} (h:z.cells.size=sz):(Builtin.zeroCells z.cells k).toList=(List.replicate k z).flatMap fun u=>u.cells.toList:=by
 have hl:((List.replicate k z).flatMap fun u=>u.cells.toList).length=k*sz:=by
  rw[Hs (sz:=sz) (fun u hu=>by rw[List.eq_of_mem_replicate hu];exact h),List.length_replicate]
 refine List.ext_getElem (by rw[Array.length_toList,size_zeroCells,h,hl]) fun q h1 h2=>?_;rw[hl] at h2
 have hs : 0 < sz := by rcases Nat.eq_zero_or_pos sz with e | e; · subst e; omega
                        · exact e
 have hq:q % sz < sz:=Nat.mod_lt _ hs;have hd:q / sz < k:=Nat.div_lt_of_lt_mul (by rw[Nat.mul_comm];exact h2)
 have hj:z.cells.toList[q % sz]? = some (z.cells[q % sz]'(by omega)):=by simp[h,hq]
 have:=Qm (vs:=List.replicate k z) (sz:=sz) (i:=q / sz) (v:=z) (fun u hu=>by rw[List.eq_of_mem_replicate hu];exact h) (by simp[hd]) hj;rw[show q / sz*sz+q % sz=q by rw[Nat.mul_comm];exact Nat.div_add_mod q sz,List.getElem?_eq_some_iff] at this;obtain⟨_,this⟩:=this;rw[this];simp[Builtin.zeroCells,h,hq]
end
def Rm (φ:Phi) (h:AH) (nx:Nat) (w:World) (φ':Phi) (h':AH) (w':World):Prop:=Rel (Gf φ h w) φ' h' w'∧(∀b x,b < nx→φ b=some x→φ' b=some x)∧(∀b o,φ.f b=some o→φ'.f b=some o)∧∀b o,φ'.f b=some o→φ.f b=some o∨¬(Gf φ h w).old b
def CallZ {α:Type} (P:Program) (ch:List PanicEntry) (f:Nat) (al:List AV) (h:AH) (nx:Nat) (o:Option α) (r:α→AV) (m:α→AH):Prop:=∀(B0:Bas) (φ:Phi) (w:World) (vs:List Value),Rel B0 φ h w→VRl φ al vs →
 Calls P f vs.toArray w (Pan ch (fun v w'=>∃a,o=some a∧∃φ',Rm φ h nx w φ' (m a) w'∧VR φ' (r a) v) (fun w'=>o=none∧∃φ',Rm φ h nx w φ' [] w'))
def Y2 (P:Program) (ch:List PanicEntry) (f:Nat) (al:List AV) (h:AH) (nx:Nat):Prop:=∀(B0:Bas) (φ:Phi) (w:World) (vs:List Value),Rel B0 φ h w→VRl φ al vs →
 Calls P f vs.toArray w (Pan ch (fun _ _=>False) (fun w'=>∃φ',Rm φ h nx w φ' [] w'))
theorem Sy {α:Type} (o:Option α) {G:Prop} (h0:o=none→G) (h1:∀a,o=some a→G):G:=match o,h0,h1 with
 |none,h0,_=>h0 rfl
 |some a,_,h1=>h1 a rfl
section
variable {α : Type} {P : Program} {ch : List PanicEntry} {f : Nat} {al : List AV} {h : AH} {nx : Nat} {o : Option α} {r : α → AV} {m : α → AH}
theorem CallZ.yes {a:α} (c:CallZ P ch f al h nx o r m) (e:o=some a):Gz P f al h nx (r a) (m a):=fun B0 φ w vs h1 h2=>(c B0 φ w vs h1 h2).mono (by
 rintro e' w' (⟨v,rfl,a',q,φ',⟨b1,b2,b3,b4⟩,b5⟩|⟨_,q,_⟩)
 ·rw[e] at q;cases q;exact⟨v,rfl,φ',b1,b5,b2,b3,b4⟩
 ·rw[e] at q;cases q)
theorem CallZ.no (c:CallZ P ch f al h nx o r m) (e:o=none):Y2 P ch f al h nx:=fun B0 φ w vs h1 h2=>(c B0 φ w vs h1 h2).mono (by
 rintro e' w' (⟨v,rfl,a',q,_⟩|⟨rfl,_,q⟩)
 ·rw[e] at q;cases q
 ·exact Pan.pan q)
def Q0o (P:Program) (rs:List ResultVar) (ch:List PanicEntry) (o:Option α) (r:α→AV) (m:α→AH) (nx:Nat):Exit→St→Prop
 |.panic c,_=>c=ch∧o=none
 |e,x=>∃a,o=some a∧Si P rs (r a) (m a) nx e x
theorem Sh {rs:List ResultVar} {x:St} {al:List AV} {e:Exit} (a:α) (ho:o=some a) (he:e = .ret∨e = .normal) (h1:H3 P rs x=some al) (h2:Ag al=r a) (h3:Di nx x.h=some (m a)):Q0o P rs ch o r m nx e x:=by
 rcases he with rfl|rfl
 ·exact⟨a,ho,E6 (.inl rfl) h1 h2 h3⟩
 ·exact⟨a,ho,E6 (.inr rfl) h1 h2 h3⟩
theorem Rel.lost {B:Bas} {φ ψ:Phi} {h:AH} {w:World} (k:Rel B φ h w) (e:ψ.f=φ.f):Rel B ψ [] w:=⟨k.below,by rw[e];exact k.fro,fun b o q=>(by cases q),fun b b' o o' k q=>(by cases q),fun b o k q=>(by cases q)⟩
theorem Y67 {fn:Func} {c:Code} {n:Nat} (rs:List ResultVar) (hf:P.funcs[f]? = some fn) (hb:fn.body=some c) (hn:fn.ntmps=n) (hr:fn.results=rs.toArray) (ha:Nat.ble al.length n=true)
  (hH:Di nx h=some h) (hal:lowl nx al=true) (hrl:∀a,low nx (r a)=true) (k:∀(B:Bas) (F:Cx),F.lo=nx→SW P n c B F (Q0o P rs ch o r m nx) ⟨Hc 0 al,h,nx⟩):CallZ P ch f al h nx o r m:=by
 intro B0 φ w vs hrel hv;have hlen:=hv.length;have hal':al.length≤n:=Nat.le_of_ble_eq_true ha;have hcut:=hrel.cut hH
 have himg:∀b o,A3 b h=some o→img (φ.cut nx) b o=img φ b o:=by
  intro b o e;have:=(Kq hH b o e).1;funext k
  cases o<;>simp only[img]<;>first|rw[show(φ.cut nx) b=φ b from if_pos this,show(φ.cut nx).s b=φ.s b from if_pos this]|rw[show(φ.cut nx) b=φ b from if_pos this]|rw[show(φ.cut nx).s b=φ.s b from if_pos this]
 have hcm:∀b x,(if b < nx then φ b else none)=some x→b < nx:=by
  intro b x e;by_cases hb:b < nx
  ·exact hb
  ·rw[if_neg hb] at e;cases e
 have hx:Holds (Gf φ h w) ⟨φ.f,fun b=>if b < nx then φ b else none,nx,hcm⟩ n ⟨Hc 0 al,h,nx⟩ (φ.cut nx) (Fk vs) w:=by
  refine⟨fun t a e=>?_,⟨⟨rfl,rfl,rfl,Nat.le_refl _,fun _ _=>rfl⟩,hcut.fro,hcut.obj,hcut.sep,fun b o k e i=>?_⟩,fun b hb=>⟨if_neg (by simpa using hb),if_neg (by simpa using hb)⟩,fun b o e=>e,fun b o e => .inl e,fun b x e=>e⟩
  ·obtain⟨h1,h2,h3⟩:=Ms (hv.cut hal) e;rw[Nat.sub_zero] at h2 h3
   have ht:Nat.blt t n=true:=by simp only[Nat.blt_eq];omega
   simp only[sl,ht,cond_true,Fk];exact h2
  ·have:=hcut.gf b o k e i;exact⟨fun q=>q.2 b o e (by rw[←himg b o e];exact i),this.2⟩
 refine D1 hf hb hn ?_ (by rw[hlen];exact ha);refine W_mono (k _ _ rfl _ _ _ hx) ?_;rintro e σ' w' ⟨y,φ1,hy,he⟩;have hb2:∀b x,b < nx→φ b=some x→(φ1.cut nx) b=some x:=fun b x hb q=>(if_pos hb).trans (hy.base b x ((if_pos hb).trans q))
 have fin:∀a,o=some a→Si P rs (r a) (m a) nx e y→I7 P n fn (Pan ch (fun v w'=>∃a,o=some a∧∃φ',Rm φ h nx w φ' (m a) w'∧VR φ' (r a) v) (fun w'=>o=none∧∃φ',Rm φ h nx w φ' [] w')) .ret σ' w':=by
  rintro a ho ⟨_,al',k1,k2,k3⟩;obtain⟨vs',hvs,hrun⟩:=Ma (P:=P) hy.fr hy.rel k1;have hp:=Pz hvs;rw[k2] at hp;exact⟨_,Nw hr hrun,.inl ⟨_,rfl,a,ho,φ1.cut nx,⟨hy.rel.cut k3,hb2,hy.old,hy.new⟩,hp.cut (hrl a)⟩⟩
 cases e with
 |normal=>obtain⟨a,ho,hs⟩:=he;exact fin a ho hs
 |ret=>obtain⟨a,ho,hs⟩:=he;exact fin a ho hs
 |panic c =>
  obtain⟨rfl,ho⟩:=he;exact .inr ⟨rfl,ho,φ1.cut nx,hy.rel.lost rfl,hb2,hy.old,hy.new⟩
 |_=>obtain⟨a,ho,hs,_⟩:=he;rcases hs with hs|hs<;>cases hs
end
section
variable {P : Program} {B : Bas} {w : World} {F : Cx} {n : Nat} {φ : Phi} {σ : Nat → Value} {K : Exit → St → Prop} {x y : St} {ops : Array Oper} {ch : List PanicEntry}
theorem Holds.none {σ':Nat→Value} (h:Holds B F n x φ σ w):Holds B F n ⟨[],x.h,x.nx⟩ φ σ' w:=⟨fun t a e=>(by cases e),h.rel,h.dom,h.old,h.new,h.base⟩
theorem Y49 {l:List Oper} (e sz t:Nat) (hsz:Nat.blt 0 sz=true) (k:Ry e sz t x=some y) (h:SO P n ops l B F K y):SO P n ops l B F K x:=fun φ σ w hx=>by
 obtain⟨φ',hh⟩:=hx.thaw hsz k;exact h _ _ _ hh
theorem H0 {rest:List Oper} {f:FuncId} {ar:Array Operand} {ts:Array TypeId} {ty:TypeId} {ps:String} {dst:Option Tmp} {af:Array Edge} {g:Option (Nat × Bool)} {al':List AV} {H:AH} (ks:List Nat)
  (he:Ai P f) (hf:Y2 P ch f al' H ks.length) (k:∀h2,Ic ks [] x.h=some h2→K (.panic ch) ⟨J7 ks x.s,h2,x.nx⟩) (hg:Cp ops x.s g=true:=by kernel_rfl) (ha:(match Dw (evA x.s) ar.toList with|some al=>renL ks al|none=>none)=some al':=by kernel_rfl)
  (hn:Gm ks=true:=by kernel_rfl) (hb:M3 x.nx ks=true:=by kernel_rfl) (hs:J8 ks x.h 0 ks=some H:=by kernel_rfl) (hk:(Ic ks [] x.h).isSome=true:=by kernel_rfl):SO P n ops (⟨dst,.call { callee:=.value (.func f),args:=ar,argTypes:=ts },ty,ps,af,g⟩::rest) B F K x:=by
 intro φ σ w hx;obtain⟨h2,hk⟩:=Option.isSome_iff_exists.1 hk;split at ha
 ·rename_i al hal;have hv:=(E4 hx.fr.ev hal).pull ha;refine Q8n (Cs hx.fr hg) he (hf B (φ.pull ks) w _ (hx.rel.pull hn hs) hv) ?_ (fun v w' q=>q.elim);rintro w' ⟨φ',q1,q3,q4,q5⟩;exact⟨_,_,hx.callS (r:=Bl) (r':=Bl) (v:=undef) (dst:=Option.none) hn hb hs hk q1 Lh q3 q4 q5 rfl rfl,k _ hk⟩
 ·cases ha
def SZ (P:Program) (n:Nat) (ops:Array Oper) (B:Bas) (F:Cx) (K:Exit→St→Prop) (fuel:Nat) (listed:Array Bool) (x:St):Prop :=
 ∀φ σ w,Holds B F n x φ σ w→WZ P n ops (E8 B F n K .normal) (fun c w=>∀σ,E8 B F n K (.panic c) σ w) fuel listed σ w
theorem Q8u {id:Nat} {l:List Oper} (hm:P.follows .mixedOrders=true) (h:SZ P n l.toArray B F K l.length (Array.replicate l.length false) x):SW P n (.region id l.toArray true) B F K x:=fun φ σ w hx=>Y39 hm fun w' hd=>by
 obtain⟨m,rfl⟩:=hd;exact h φ σ _ ⟨hx.fr,hx.rel.drew,hx.dom,hx.old,hx.new,hx.base⟩
variable {fuel : Nat} {listed : Array Bool}
noncomputable def Ve (P:Program) (n:Nat) (ops:Array Oper) (i:Nat) (x:St):Option St:=match ops[i]? with
 |some o=>match o.guard with
  |none=>match Pu P (evA x.s) o with
   |some (a,none)=>match B3 n o.dst a x.s with
    |some s'=>some ⟨s',x.h,x.nx⟩
    |none=>none
   |_=>none
  |some _=>none
 |none=>none
noncomputable def stG (r:Option St):St:=match r with
 |some y=>y
 |none=>⟨[],[],0⟩
theorem Un (i:Nat) (next:SZ P n ops B F K fuel (listed.setIfInBounds i true) (stG (Ve P n ops i x))) (h:(Ve P n ops i x).isSome=true:=by kernel_rfl) (hs:Region.noSelect ops=true:=by kernel_rfl) (hf:Region.free .any ops listed i=true:=by kernel_rfl)
  (hr:(Region.ready .any ops listed).contains i=true:=by kernel_rfl):SZ P n ops B F K (fuel+1) listed x:=by
 intro φ σ w hx;obtain⟨y,hy⟩:=Option.isSome_iff_exists.1 h;rw[hy] at next;unfold Ve at hy;split at hy
 ·rename_i o ho;split at hy
  ·rename_i hg;split at hy
   ·rename_i a ha;split at hy
    ·rename_i s' hp;cases hy;obtain⟨v,h1,h2⟩:=V3 hx.fr.ev ha trivial;exact Y4f i ho hs hf hr (by rw[hg];rfl) h1 (next φ _ w ⟨hx.fr.put hp h2,hx.rel,hx.dom,hx.old,hx.new,hx.base⟩)
    ·cases hy
   ·cases hy
  ·cases hy
 ·cases hy
def Oe (P:Program) (n:Nat) (ops:Array Oper) (B:Bas) (F:Cx) (K:Exit→St→Prop) (fuel:Nat) (listed:Array Bool):Exit→St→Prop
 |.normal,y=>SZ P n ops B F K fuel listed y
 |.panic c,y=>K (.panic c) ⟨[],y.h,y.nx⟩
 |_,_=>False
theorem Wp {i:Nat} {o:Oper} (h:SO P n ops [o] B F (Oe P n ops B F K fuel (listed.setIfInBounds i true)) x) (hx:Holds B F n x φ σ w):WO P n ops [o] (Jn P n ops (E8 B F n K .normal) (fun c w=>∀σ,E8 B F n K (.panic c) σ w) fuel listed i) σ w:=by
 have h:=h φ σ w hx
 have ho:¬LetsOut (lift n (E8 B F n (Oe P n ops B F K fuel (listed.setIfInBounds i true)))):=by
  rintro⟨a,w,σ',_,y,φ',_,h⟩;exact h
 have hk:∀a w',wpList P ops (lift n (E8 B F n (Oe P n ops B F K fuel (listed.setIfInBounds i true)))) [] a w'→wpList P ops (lift n (Jn P n ops (E8 B F n K .normal) (fun c w=>∀σ,E8 B F n K (.panic c) σ w) fuel listed i)) [] a w':=by
  rintro a w' ⟨σ',rfl,y,φ',hy,hs⟩;exact⟨σ',rfl,X4a (hs φ' σ' w' hy)⟩
 unfold WO wpList at h ⊢;split at h
 ·rename_i hw;rw[if_pos hw];rcases h with h|⟨_,h⟩
  ·refine .inl (Ze hk (fun c a w hc=>?_) ho h);obtain⟨σ',rfl,y,φ',hy,hs⟩:=hc;exact⟨σ',rfl,X39 fun σ2=>⟨_,φ',hy.none,hs⟩⟩
  ·exact absurd h ho
 ·rename_i hw;rw[if_neg hw];exact hk _ _ h
theorem Q8r (i:Nat) {o:Oper} (hr:Region.ready .any ops listed=[i]) (hi:ops[i]? = some o) (h:SO P n ops [o] B F (Oe P n ops B F K fuel (listed.setIfInBounds i true)) x):SZ P n ops B F K (fuel+1) listed x :=
 fun φ σ w hx=>Y4g i hr hi (Wp h hx)
theorem Q8q (i j:Nat) {oi oj:Oper} (hr:Region.ready .any ops listed=[i,j]) (hi:ops[i]? = some oi) (hj:ops[j]? = some oj) (h1:SO P n ops [oi] B F (Oe P n ops B F K fuel (listed.setIfInBounds i true)) x) (h2:SO P n ops [oj] B F (Oe P n ops B F K fuel (listed.setIfInBounds j true)) x):SZ P n ops B F K (fuel+1) listed x :=
 fun φ σ w hx=>Y4e i j hr hi hj (Wp h1 hx) (Wp h2 hx)
end
def Io (ds:List Deferred) (a:Act):Act:={ a with defers:=a.defers++ds }
theorem Q8d (ds:List Deferred) (a:Act):(Io ds a).eval=a.eval:=by funext x;cases x<;>rfl
theorem O4 (ds:List Deferred) (a:Act) (d:Option Tmp) (v:Value):(Io ds a).put d v=Io ds (a.put d v):=by cases d<;>rfl
section
variable {P : Program} {ds : List Deferred}
theorem Q93 {o:Oper} {a:Act} {k k':Act→World→Prop} {Q Q':Exit→Act→World→Prop} (hQ:∀e a w,Q e a w→Q' e (Io ds a) w) (hk:∀a w,k a w→k' (Io ds a) w) (r:Result Go.Next) (h:o.upon P a k Q r):o.upon P (Io ds a) k' Q' r:=by
 unfold Oper.upon at h ⊢;split at h
 ·simp only[O4];exact hk _ _ h
 ·simp only[O4];exact hk _ _ h
 ·rename_i d w';have e:({ Io ds a with defers:=d::(Io ds a).defers }:Act)=Io ds { a with defers:=d::a.defers }:=rfl;simp only[e,O4];exact hk _ _ h
 ·refine h.mono ?_;intro e w h
  cases e with
  |returned v=>simp only[O4];exact hk _ _ h
  |panicked c=>exact hQ _ _ _ h
  |outgrown=>obtain⟨a,w,q⟩:=h;exact⟨_,_,hQ _ _ _ q⟩
 ·refine h.mono ?_;intro v w h;simp only[O4];exact hk _ _ h
 ·exact hQ _ _ _ h
 ·exact h.elim
theorem Q3k {ops:Array Oper} {Q Q':Exit→Act→World→Prop} (hQ:∀e a w,Q e a w→Q' e (Io ds a) w):∀(l:List Oper) (a:Act) (w:World),wpList P ops Q l a w→wpList P ops Q' l (Io ds a) w
 |[],a,w,h=>hQ _ _ _ h
 |o::l,a,w,h=>by
  have ih:=Q3k (ops:=ops) hQ l;unfold wpList at h ⊢;have e1:(Io ds a).tmps=a.tmps:=rfl;rw[e1];split at h
  ·rename_i hw;rw[if_pos hw];rcases h with h|⟨h1,a',w',h2⟩
   ·left;unfold Oper.wp at h ⊢;rw[Q8d];exact Q93 hQ ih _ h
   ·right;refine⟨?_,_,_,hQ _ _ _ h2⟩;unfold Oper.asks at h1 ⊢;rw[Q8d];exact h1
  ·rename_i hw;rw[if_neg hw,O4];exact ih _ _ h
variable {B : Bas} {F : Cx} {n : Nat} {K : Exit → St → Prop} {x : St}
def SWD (P:Program) (ds:List Deferred) (n:Nat) (c:Code) (B:Bas) (F:Cx) (K:Exit→St→Prop) (x:St):Prop:=∀φ σ w,Holds B F n x φ σ w→D.W P ds n c (E8 B F n K) σ w
theorem Y46 {c:Code} {φ:Phi} {σ:Nat→Value} {w:World} (h:SW P n c B F K x) (hx:Holds B F n x φ σ w):W P n c (E8 B F n K) σ w:=h φ σ w hx
theorem Y60 {c:Code} {φ:Phi} {σ:Nat→Value} {w:World} (hx:Holds B F n x φ σ w) (h:SWD P ds n c B F K x):D.W P ds n c (E8 B F n K) σ w:=h φ σ w hx
theorem L2 {id:Nat} {l:List Oper} (h:SO P n l.toArray l B F K x):SWD P ds n (.region id l.toArray false) B F K x:=fun φ σ w hx =>
 D.W_reg (by
  have k:=h φ σ w hx;unfold WO at k
  exact Q3k (ds:=ds) (Q:=lift n (E8 B F n K)) (Q':=D.lift ds n (E8 B F n K)) (by rintro e _ w ⟨σ,rfl,q⟩;exact⟨σ,rfl,q⟩) l _ _ k)
theorem K4 {c d:Code} (h:SWD P ds n c B F (K8 (SWD P ds n d B F K) K) x):SWD P ds n (.seq c d) B F K x:=by
 intro φ σ w hx;refine D.W_seq (D.W_mono (h φ σ w hx) ?_);rintro e σ' w' ⟨y,φ',h1,h2⟩
 cases e<;>first|exact h2 φ' σ' w' h1|exact⟨y,φ',h1,h2⟩
theorem Y6y (h:K .normal x):SWD P ds n .skip B F K x:=fun φ σ w hx=>D.W_skip ⟨x,φ,hx,h⟩
theorem Q9d (h:K .ret x):SWD P ds n .ret B F K x:=fun φ σ w hx=>D.W_ret ⟨x,φ,hx,h⟩
theorem Y61 {o:Operand} {c d:Code} {q:Bool} (ht:q=true→SWD P ds n c B F K x) (hf:q=false→SWD P ds n d B F K x) (hq:evA x.s o=some (.bool q):=by kernel_rfl):SWD P ds n (.cond o c d) B F K x:=by
 intro φ σ w hx;have:=hx.fr.ev _ _ hq;simp only[VR] at this;exact D.W_cond this (fun h=>ht h φ σ w hx) (fun h=>hf h φ σ w hx)
theorem Y6z {o:Operand} {c d:Code} {p:Prop} [Decidable p] (ht:¬p→SWD P ds n c B F K x) (hf:p→SWD P ds n d B F K x) (hq:evA x.s o=some (.bool (!decide p)):=by kernel_rfl):SWD P ds n (.cond o c d) B F K x :=
 Y61 (fun h=>ht (by simpa using h)) (fun h=>hf (by simpa using h)) hq
end
theorem Y14 {P:Program} {n:Nat} {σ:Nat→Value} {w:World} {p q:Value} {dst:Option Tmp} {g a b:Nat} {ty:TypeId} {ps:String} {af:Array Edge} (h1:sl n σ a=p) (h2:sl n σ b=q) :
  (execOp (ev n σ) ⟨dst,.makeFunc (.func g) #[] #[.tmp a,.tmp b],ty,ps,af,none⟩).run P w = .ok (.value (.func (.func g) #[] #[p,q])) w:=by
 simp[execOp,ev,h1,h2,go_sem]
theorem Y15 {P:Program} {n:Nat} {σ:Nat→Value} {w:World} {p q:Value} {g d:Nat} {ty:TypeId} {ps:String} {af:Array Edge} {ts:Array TypeId} (hd:d < n) :
  (execOp (ev n (Bn σ (some d) (.func (.func g) #[] #[p,q]))) ⟨none,.defer { callee:=.value (.tmp d),args := #[],argTypes:=ts },ty,ps,af,none⟩).run P w = .ok (.defer { target:=.fn (.func g) #[p,q],args := #[] }) w:=by
 simp[execOp,resolve,ev,Bn,Z3 hd,Deferred.ofValue,go_sem]
noncomputable def Qe:List (AV × AV × Nat)→Option (List Int)
 |[]=>some []
 |(.int .i64 k,_,_)::r=>match Qe r with
  |some l=>some (k::l)
  |none=>none
 |_=>none
noncomputable def Qb (k:Int):List (AV × AV × Nat)→Option AV
 |[]=>none
 |(.int .i64 j,a,_)::r=>bif decide (j=k) then some a else Qb k r
 |_=>none
theorem Q71 {κ α:Type} [DecidableEq κ] (a:κ × α) (m:List (κ × α)) (k:κ):Bj (a::m) k=if k=a.1 then some a.2 else Bj m k:=by
 unfold Bj;rw[List.find?_cons];by_cases h:k=a.1<;>simp[h]
theorem Wo {φ:Phi}:∀{es:List (AV × AV × Nat)} {l:List MapEntry} {ks:List Int},MR φ es l→Qe es=some ks→∃m:List (Int × Value),l.map (fun e=>(e.key,e.val))=Ds I64 id m∧m.map (·.1)=ks∧∀k a,Qb k es=some a→∃u,Bj m k=some u∧VR φ a u
 |[],_,_,h,k=>by cases k;simp only[MR] at h;subst h;exact⟨[],rfl,rfl,fun k a e=>by cases e⟩
 |(a,v,c)::r,_,_,h,k=>by
  simp only[MR] at h;obtain⟨e,l',rfl,h1,h2,_,h4⟩:=h;unfold Qe at k;split at k
  ·cases ‹_=[]›
  ·rename_i j _ _ _ q;cases q;split at k
   ·rename_i hm;cases k;obtain⟨m,m1,m2,m3⟩:=Wo h4 hm;simp only[VR] at h1;refine⟨(j,e.val)::m,?_,by simp only[List.map_cons,m2],fun k' a' hk=>?_⟩
    ·simp only[List.map_cons,Ds,m1,h1];rfl
    ·unfold Qb at hk;rw[Q71]
     cases hb:decide (j=k') with
     |true =>
      rw[hb,cond_true] at hk;cases hk;rw[if_pos (of_decide_eq_true hb).symm];exact⟨_,rfl,h2⟩
     |false =>
      rw[hb,cond_false] at hk;rw[if_neg (fun q=>of_decide_eq_false hb q.symm)];exact m3 k' a' hk
   ·cases k
  ·cases k
section
variable {P : Program} {B : Bas} {w : World} {F : Cx} {n : Nat} {φ : Phi} {σ : Nat → Value} {K : Exit → St → Prop} {x : St} {ops : Array Oper}
theorem Y3s {m:List (Int × Value)} {k:Int} (h:¬k∈m.map (·.1)):Bj m k=none:=by
 induction m with
 |nil=>rfl
 |cons a r ih =>
  simp only[List.map_cons,List.mem_cons,not_or] at h;rw[Q71,if_neg h.1];exact ih h.2
theorem Rg {rest:List Oper} {t kt et:TypeId} {X I Y:Operand} {ty:TypeId} {ps:String} {af:Array Edge} {g:Option (Nat × Bool)} {b c:Nat} {es:List (AV × AV × Nat)} {ks:List Int} {k:Int} {a:AV} (ht:P.underlying t=some (.map kt et)) (hk:P.underlying kt=some (.int .i64))
  (hX:evA x.s X=some (.map b)) (hI:evA x.s I=some (.int .i64 k)) (hY:evA x.s Y=some a) (hb:A3 b x.h=some (.map es c)) (next:SO P n ops rest B F K ⟨x.s,B1 b (.map (es++[(.int .i64 k,a,c)]) (c+1)) x.h,x.nx⟩)
  (hm:Qe es=some ks:=by kernel_rfl) (hn:ks.contains k=false:=by kernel_rfl) (hf:frz a=true:=by kernel_rfl) (hg:Cp ops x.s g=true:=by kernel_rfl):SO P n ops (⟨none,.insert t X I Y,ty,ps,af,g⟩::rest) B F K x:=by
 intro φ σ w hx;have v1:=hx.fr.ev _ _ hX;have v2:=hx.fr.ev _ _ hI;have v3:=hx.fr.ev _ _ hY;simp only[VR] at v1 v2;obtain⟨x0,κ,e0,v1⟩:=v1;obtain⟨x1,κ1,l,h1,h2,h3⟩:=hx.rel.obj b _ hb;rw[e0] at h1;cases h1;obtain⟨m,he,m2,_⟩:=Wo h3 hm;obtain⟨r,f1,f2,f3⟩:=Nv (Od hk) k l.toList m he w;rw[Y3s (by rw[m2];intro q;rw[List.contains_iff_mem.2 q] at hn;cases hn)] at f2;have hc:=(Od hk).check false 9999 k w;have hlt:x0 < w.heap.size:=Dl h2
 cases r with
 |some p=>simp at f2
 |none =>
  refine Hd (w':={ w with heap:=w.heap.setIfInBounds x0 (.map (l.push { key:=I64 k,val:=ev n σ Y,born:=c }) (c+1)) }) (Cs hx.fr hg) ?_ (next φ _ _ ⟨hx.fr,?_,hx.dom,hx.old,hx.new,hx.base⟩)
  ·have v2':ev n σ I=I64 k:=v2;simp[execOp,v1,v2',Instr.mapUpdate,run_underlying ht,getObj,setObj,Sem.run,h2,hc,f1,go_sem]
  ·refine hx.rel.set hb rfl rfl e0 rfl rfl rfl (by simp) (fun j hj=>by simp[Array.getElem?_setIfInBounds,Ne.symm hj]) ⟨x0,κ,_,e0,(by simp[hlt];rfl),?_⟩;rw[Array.toList_push];exact MR.snoc (e:={ key:=I64 k,val:=ev n σ Y,born:=c }) (by simp only[VR]) (v3.fz hf) h3
theorem Y5k {rest:List Oper} {t kt et:TypeId} {X I:Operand} {dst:Option Tmp} {ty:TypeId} {ps:String} {af:Array Edge} {g:Option (Nat × Bool)} {b c:Nat} {es:List (AV × AV × Nat)} {ks:List Int} {k:Int} {a a':AV} {s':Fr} {z:Value} (ht:P.underlying t=some (.map kt et)) (hk:P.underlying kt=some (.int .i64)) (hz:∀w,(zeroValue et).run P w = .ok z w)
  (hX:evA x.s X=some (.map b)) (hI:evA x.s I=some (.int .i64 k)) (hb:A3 b x.h=some (.map es c)) (hr:Qb k es=some a) (im:Imp a a') (hp:B3 n dst a' x.s=some s') (next:SO P n ops rest B F K ⟨s',Cr b x.h,x.nx⟩)
  (hm:Qe es=some ks:=by kernel_rfl) (hg:Cp ops x.s g=true:=by kernel_rfl):SO P n ops (⟨dst,.lookup t X I false,ty,ps,af,g⟩::rest) B F K x:=by
 intro φ σ w hx;have v1:=hx.fr.ev _ _ hX;have v2:=hx.fr.ev _ _ hI;simp only[VR] at v1 v2;obtain⟨x0,κ,e0,v1⟩:=v1;obtain⟨x1,κ1,l,h1,h2,h3⟩:=hx.rel.obj b _ hb;rw[e0] at h1;cases h1;obtain⟨m,he,_,m3⟩:=Wo h3 hm;obtain⟨u,hu,hv⟩:=m3 k a hr;have hl:=Uu (dst:=dst) (ty:=ty) (ps:=ps) (af:=af) (g:=g) (enc:=I64) (val:=id) (k:=k) (m:=m) v1 v2 ⟨_,_,h2,he⟩ (Od hk) ht hz;rw[hu] at hl;exact B8 (Cs hx.fr hg) hl (next φ _ w ⟨hx.fr.put hp (im _ _ (hv.mono (Phi.le_fz φ))),hx.rel.del b,hx.dom,hx.old,hx.new,hx.base⟩)
end
def Y3 (P:Program) (f:Nat) (al:List AV) (es:List (AV × AV × Nat)) (c:Nat):Prop:=∀(F:Nat→Option Obj) (w:World) (vs:List Value),Fro F w→VRl (ofF F) al vs→Calls P f vs.toArray w (Ret fun v w'=>Below w.heap.size w w' ∧
 ∃F',(∀b o,F b=some o→F' b=some o)∧Fro F' w'∧(∀b o,F' b=some o→F b=some o∨w.heap.size≤b)∧∃b l,v = .map (some b)∧w'.heap[b]? = some (.map l c)∧w.heap.size≤b∧F' b=none∧MR (ofF F') es l.toList)
def X2j (P:Program) (rs:List ResultVar) (es:List (AV × AV × Nat)) (c:Nat):Exit→St→Prop:=fun e x=>(e = .ret∨e = .normal)∧∃b,H3 P rs x=some [.map b]∧A3 b x.h=some (.map es c)
theorem Y68 {P:Program} {f:FuncId} {fn:Func} {c:Code} {n:Nat} {al:List AV} {es:List (AV × AV × Nat)} {ck:Nat} (rs:List ResultVar) (hf:P.funcs[f]? = some fn) (hb:fn.body=some c) (hn:fn.ntmps=n) (hr:fn.results=rs.toArray) (ha:Nat.ble al.length n=true)
  (h:∀(B:Bas) (F:Cx),F.lo=0→SW P n c B F (X2j P rs es ck) ⟨Hc 0 al,[],0⟩):Y3 P f al es ck:=by
 intro F w vs hF hv;have hlen:=hv.length;have hal:al.length≤n:=Nat.le_of_ble_eq_true ha;refine D1 hf hb hn ?_ (by rw[hlen];exact ha)
 have hx:Holds ⟨w,fun k=>k < w.heap.size,fun _ h=>h⟩ ⟨F,fun _=>none,0,fun _ _ e=>by cases e⟩ n ⟨Hc 0 al,[],0⟩ (ofF F) (Fk vs) w:=by
  refine⟨fun t a e=>?_,⟨⟨rfl,rfl,rfl,Nat.le_refl _,fun _ _=>rfl⟩,hF,fun b o e=>(by cases e),fun b b' o o' k e=>(by cases e),fun b o k e=>(by cases e)⟩,fun b _=>⟨rfl,rfl⟩,fun b o e=>e,fun b o e => .inl e,fun b o e=>(by cases e)⟩;obtain⟨h1,h2,h3⟩:=Ms hv e;rw[Nat.sub_zero] at h2 h3
  have ht:Nat.blt t n=true:=by simp only[Nat.blt_eq];omega
  simp only[sl,ht,cond_true,Fk];exact h2
 refine W_mono (h _ _ rfl _ _ _ hx) ?_;rintro e σ' w' ⟨y,φ',hy,he,b,k1,k2⟩;obtain⟨vs',hvs,hrun⟩:=Ma (P:=P) hy.fr hy.rel k1;obtain⟨v,rfl,hv1⟩:=hvs.single_inv;simp only[VR] at hv1;obtain⟨x0,κ,e0,rfl⟩:=hv1;obtain⟨x1,κ1,l,g1,g2,g3⟩:=hy.rel.obj b _ k2;rw[e0] at g1;cases g1;obtain⟨o1,o2,o3⟩:=hy.rel.gf b _ x0 k2 (by simp only[img,e0];rfl)
 have fin:I7 P n fn (Ret fun v w''=>Below w.heap.size w w''∧∃F',(∀b o,F b=some o→F' b=some o)∧Fro F' w''∧(∀b o,F' b=some o→F b=some o∨w.heap.size≤b)∧∃b l,v = .map (some b)∧w''.heap[b]? = some (.map l ck)∧w.heap.size≤b∧F' b=none∧MR (ofF F') es l.toList) .ret σ' w' :=
  ⟨_,Nw hr hrun,_,rfl,⟨hy.rel.below.os,hy.rel.below.tape,hy.rel.below.output,hy.rel.below.size,hy.rel.below.block⟩,φ'.f,hy.old,hy.rel.fro,fun b o q=>(hy.new b o q).imp id Nat.le_of_not_lt,x0,l,rfl,g2,Nat.le_of_not_lt o1,o3,g3⟩
 rcases he with rfl|rfl
 ·exact fin
 ·exact fin
section
variable {P : Program} {B : Bas} {w : World} {F : Cx} {n : Nat} {φ : Phi} {σ : Nat → Value} {K : Exit → St → Prop} {x : St} {ops : Array Oper}
theorem Y5q {rest:List Oper} {f:FuncId} {ar:Array Operand} {ts:Array TypeId} {ty:TypeId} {ps:String} {dst:Option Tmp} {af:Array Edge} {g:Option (Nat × Bool)} {al:List AV} {es:List (AV × AV × Nat)} {c:Nat} {s':Fr} (he:Ai P f) (hf:Y3 P f al es c)
  (ha:Dw (evA x.s) ar.toList=some al) (hp:B3 n dst (.map x.nx) x.s=some s') (next:SO P n ops rest B F K ⟨s',B1 x.nx (.map es c) x.h,x.nx+1⟩) (hz:frzl al=true:=by kernel_rfl) (hg:Cp ops x.s g=true:=by kernel_rfl) :
  SO P n ops (⟨dst,.call { callee:=.value (.func f),args:=ar,argTypes:=ts },ty,ps,af,g⟩::rest) B F K x:=by
 intro φ σ w hx;have hv:=(E4 hx.fr.ev ha).fz hz;refine Cv (Cs hx.fr hg) he (hf φ.f w _ hx.rel.fro hv) ?_;rintro v w' ⟨hb,F',h1,h2,h3,b,l,rfl,h4,h5,h6,h7⟩;have hh:=hx.called hb h1 h2 h3;have hd:=hh.dom x.nx (Nat.le_refl _);have hle:(⟨φ.m,φ.s,F'⟩:Phi).le ((⟨φ.m,φ.s,F'⟩:Phi).ext x.nx b):=Phi.ext_le hd.1;have hblk:b < w'.heap.size:=Dl h4;have rel1:Rel B ((⟨φ.m,φ.s,F'⟩:Phi).ext x.nx b) x.h w':=hh.rel.go hle (Below.refl _ w') (fun c o e=>hh.rel.fro c o e) (fun c o e => .inl e)
 have rel2:=rel1.add (b:=x.nx) (o:=.map es c) ⟨b,0,l,Phi.ext_same _ _ _,h4,h7⟩ (fun k hk=>by
  have hk':k=b:=by simp only[img,Phi.ext_same,Option.map_some,Option.some.injEq] at hk;exact hk.symm
  subst hk';refine⟨fun q=>Nat.lt_irrefl _ (Nat.lt_of_lt_of_le (hx.rel.below.lt q) h5),hblk,h6,fun d o' hc e i=>?_⟩;have sm:SameO (⟨φ.m,φ.s,F'⟩:Phi) ((⟨φ.m,φ.s,F'⟩:Phi).ext x.nx k) d o':=SameO.of_le hle (hh.rel.obj d o' e);rw[sm.img] at i
  have i':img φ d o' k:=by cases o'<;>exact i
  have:=(hx.rel.gf d o' k e i').2.1;omega)
 refine next _ _ _ ⟨FRel.put (φ:=(⟨φ.m,φ.s,F'⟩:Phi).ext x.nx b) (fun u a e=>(hh.fr u a e).mono hle) hp (by simp only[VR];exact⟨b,0,Phi.ext_same _ _ _,rfl⟩),rel2,fun k hk=>?_,hh.old,hh.new,fun d y e=>hle.m _ _ (hh.base d y e)⟩;have hk:x.nx+1≤k:=hk;exact⟨(if_neg (by omega)).trans (hh.dom k (by show x.nx≤k;omega)).1,(hh.dom k (by show x.nx≤k;omega)).2⟩
end
section
variable {P : Program} {B : Bas} {w : World} {F F0 : Cx} {n : Nat} {φ : Phi} {σ : Nat → Value} {K : Exit → St → Prop} {x y : St} {ops : Array Oper}
theorem Y5l {rest:List Oper} {t:TypeId} {L C:Operand} {dst:Option Tmp} {ty:TypeId} {ps:String} {af:Array Edge} {g:Option (Nat × Bool)} {e sz:Nat} {z:AV} {s':Fr} (m:Nat) (hm:m≤8388609)
  (next:SO P n ops rest B F K ⟨s',B1 x.nx (.grow (List.replicate m z) e sz) x.h,x.nx+1⟩)
  (hg:Cp ops x.s g=true:=by kernel_rfl) (hL:evA x.s L=some (.int .i64 (m:Int)):=by kernel_rfl) (hC:evA x.s C=some (.int .i64 (m:Int)):=by kernel_rfl) (ht:Fj P t=some e:=by kernel_rfl)
  (hz:Jc P e=some z:=by kernel_rfl) (hs:tsz P e=some sz:=by kernel_rfl) (hz1:(Nat.beq (cellsOf z).length sz&&!Et z&&ones (cellsOf z)&&(match tby P e with|some b=>Nat.ble b 1000|none=>false))=true:=by kernel_rfl)
  (hp:B3 n dst (.own x.nx) x.s=some s':=by kernel_rfl):SO P n ops (⟨dst,.makeSlice t L C,ty,ps,af,g⟩::rest) B F K x:=by
 intro φ σ w hx;have v1:=hx.fr.ev _ _ hL;have v2:=hx.fr.ev _ _ hC;simp only[VR] at v1 v2;obtain⟨zv,z1,z2⟩:=K5 (φ:=φ.fz) hz;simp only[Bool.and_eq_true,Bool.not_eq_true'] at hz1;obtain⟨⟨⟨c1,c2⟩,c3⟩,c4⟩:=hz1;have zc:=z2.cells c2
 have zl:zv.cells.size=sz:=by have:=zc.length;have:=Nat.eq_of_beq_eq_true c1;simp only[Array.length_toList] at *;omega
 have zo:=zc.ones c3;have hu:=Ef ht
 obtain⟨by_,hb,hby⟩:∃b,tby P e=some b∧b≤1000:=by
  split at c4
  ·rename_i b hb;exact⟨b,hb,Dx c4⟩
  ·cases c4
 obtain⟨i,hi,hib,hisz⟩:=U7 hb hs
 have hty:(typeInfo e).run P w = .ok i w:=by simp[typeInfo,hi,go_sem]
 have hwr:IntKind.i64.wrap (m:Int)=(m:Int):=by
  simp only[IntKind.wrap,IntKind.signed,IntKind.bits];simp;omega
 have h5:by_*m≤1000*8388609:=Nat.mul_le_mul hby hm;have h6:(2:Int) ^ 48=281474976710656:=rfl
 have g1:¬((i.bytes:Int)*(m:Int) > 2 ^ 48):=by
  rw[hib,h6,←Int.natCast_mul];omega
 have cnd:((decide ((m:Int) < 0)||decide ((i.bytes:Int)*(m:Int) > 2 ^ 48))||decide ((m:Int) < 0)||decide ((m:Int) > (m:Int)))=false:=by
  rw[decide_eq_false g1,decide_eq_false (show ¬(m:Int) < 0 by omega),decide_eq_false (show ¬(m:Int) > (m:Int) by omega)];rfl
 let ob:Obj:=.cells (Builtin.zeroCells zv.cells m) e (0,0)
 have run:(execOp (ev n σ) ⟨dst,.makeSlice t L C,ty,ps,af,g⟩).run P w = .ok (.value (.slice (some ⟨w.heap.size,0,none⟩) m m)) (w.alloc ob):=by
  have key:(Instr.makeSlice t (.int .i64 (m:Int)) (.int .i64 (m:Int))).run P w = .ok (.slice (some ⟨w.heap.size,0,none⟩) m m) (w.alloc ob):=by
   simp only[Instr.makeSlice,asInt,asIntOf,Sem.run_bind,run_underlying hu,Result.andThen_ok,Sem.run_pure,hty,hwr];rw[if_neg (by rw[cnd];simp)];by_cases q:m*sz=0
   ·have hr0:∀f:Nat→Value,(Array.range (m*sz)).map f = #[]:=fun f=>by rw[q];simp
    have ho:ob = .cells #[] e (0,0):=by show Obj.cells (Builtin.zeroCells zv.cells m) e (0,0)=_;unfold Builtin.zeroCells;rw[zl,hr0]
    simp only[Sem.run_bind,run_askRoom,Int.toNat_natCast,C4 hs,Result.andThen_ok,if_pos q,Sem.run_pure,hr0,K9,ho]
   ·have ho:ob = .cells ((Array.range (m*sz)).map fun i=>zv.cells[i % zv.cells.size]!) e (0,0):=by show Obj.cells (Builtin.zeroCells zv.cells m) e (0,0)=_;unfold Builtin.zeroCells;rw[zl]
    simp only[Sem.run_bind,run_askRoom,Int.toNat_natCast,C4 hs,Result.andThen_ok,if_neg q,z1,Sem.run_pure,K9,ho]
  simp only[execOp,v1,v2,key,Sem.run_bind,Result.andThen_ok,Sem.run_pure]
 have hsn:=(hx.dom x.nx (Nat.le_refl _)).2;have hle:=Phi.extS_le (v:=.slice (some ⟨w.heap.size,0,none⟩) m m) hsn;have hfr:FRel (φ.extS x.nx (.slice (some ⟨w.heap.size,0,none⟩) m m)) n x.s σ:=fun u c q=>(hx.fr u c q).mono hle
 have hzr:VRl φ.fz (List.replicate m z) (List.replicate m zv):=by
  clear hm h5 g1 cnd hwr v1 v2 hL hC hfr hle run ob next
  induction m with
  |zero=>exact .nil
  |succ m ih=>rw[List.replicate_succ,List.replicate_succ];exact .cons z2 ih
 have hsz:∀u∈List.replicate m zv,u.cells.size=sz∧∀c∈u.cells.toList,c.oneCell'=true:=fun u hu=>by rw[List.eq_of_mem_replicate hu];exact⟨zl,zo⟩
 have hown:(w.alloc ob).ownsRow 0 e sz (.slice (some ⟨w.heap.size,0,none⟩) m m) (List.replicate m z).length ((List.replicate m zv).flatMap fun u=>u.cells.toList):=by
  rw[List.length_replicate]
  have hfl:((List.replicate m zv).flatMap fun u=>u.cells.toList).length=m*sz:=by rw[Hs (sz:=sz) (fun u hu=>(hsz u hu).1),List.length_replicate]
  refine⟨hfl,.inr ⟨w.heap.size,m,Builtin.zeroCells zv.cells m,rfl,Nat.zero_le _,(by show(w.heap.push ob)[w.heap.size]? = _;simp[ob]),Nat.le_refl _,by unfold maxLen;omega,by rw[size_zeroCells,zl],?_⟩⟩;rw[Y5 zl,List.take_of_length_le (by omega)]
 refine B8 (w':=w.alloc ob) (Cs hx.fr hg) run (next _ _ _ ⟨hfr.put hp (by simp only[VR];exact⟨Phi.extS_same _ _ _,_,_,_,rfl⟩),?_,hx.dom.extS,hx.old,hx.new,fun b o q=>hle.m _ _ (hx.base b o q)⟩);have h1:=hx.rel.go hle ((Below.refl _ w).alloc (Nat.le_refl _) ob) (fun c o' q=>(heap_alloc_old w ob (Dl (hx.rel.fro c o' q))).trans (hx.rel.fro c o' q)) (fun c o' q => .inl q);refine h1.add ⟨_,_,Phi.extS_same _ _ _,hown,hzr,hsz⟩ fun k hk=>?_;simp only[img,Phi.extS_same,Value.ownBlock,Option.bind_some,Option.some.injEq] at hk;subst hk;refine⟨hx.rel.below.fresh,by simp,?_,fun c o' hc q i=>?_⟩
 ·show φ.f w.heap.size=none
  cases hh:φ.f w.heap.size with
  |none=>rfl
  |some u=>have:=Dl (hx.rel.fro _ _ hh);omega
 ·rw[(SameO.of_le hle (hx.rel.obj c o' q)).img] at i;have:=(hx.rel.gf c o' _ q i).2.1;omega
theorem X0k {α:Type} {c y:List α} {a s m:Nat} (h:a+s≤m) (hm:m≤c.length) (hy:y.length=s):(c.take a++y++c.drop (a+s)).take m=((c.take m).take a++y)++(c.take m).drop (a+s):=by
 have h1:(c.take a++y).length=a+s:=by rw[List.length_append,List.length_take,hy,Nat.min_eq_left (by omega)]
 rw[List.take_append,List.take_of_length_le (by omega),h1,List.take_take,Nat.min_eq_left (by omega),List.drop_take]
theorem Y5f {rest:List Oper} {t:TypeId} {X Y:Operand} {dst:Option Tmp} {ty:TypeId} {ps:String} {af:Array Edge} {g:Option (Nat × Bool)} {b e sz o:Nat} {es:List AV} {v:AV} {s':Fr} (i:Nat) (hi:i < es.length) (ho:o=i*sz)
  (next:SO P n ops rest B F K ⟨s',B1 b (.grow (es.set i v) e sz) x.h,x.nx⟩)
  (hg:Cp ops x.s g=true:=by kernel_rfl) (hX:evA x.s X=some (.op b o):=by kernel_rfl) (hY:evA x.s Y=some v:=by kernel_rfl) (hb:A3 b x.h=some (.grow es e sz):=by kernel_rfl) (ht:tsz P t=some sz:=by kernel_rfl)
  (hz1:(Nat.beq (cellsOf v).length sz&&!Et v&&ones (cellsOf v)&&frz v)=true:=by kernel_rfl) (hp:B3 n dst (.tup []) x.s=some s':=by kernel_rfl):SO P n ops (⟨dst,.store t X Y,ty,ps,af,g⟩::rest) B F K x:=by
 subst ho;intro φ σ w hx;have v1:=hx.fr.ev _ _ hX;have v2:=hx.fr.ev _ _ hY;simp only[VR] at v1;obtain⟨hd,k,e1,e2,hv⟩:=v1;obtain⟨v0,vs,a1,a2,a3,a4⟩:=hx.rel.obj b _ hb;rw[e1] at a1;cases a1;simp only[Bool.and_eq_true,Bool.not_eq_true'] at hz1;obtain⟨⟨⟨c1,c2⟩,c3⟩,c4⟩:=hz1;have hcells:=v2.cells c2;have hones:=hcells.ones c3
 have hlen:(ev n σ Y).cells.size=sz:=by have:=hcells.length;have:=Nat.eq_of_beq_eq_true c1;simp only[Array.length_toList] at *;omega
 have hyl:(ev n σ Y).cells.toList.length=sz:=by rw[Array.length_toList];exact hlen
 have hnew:VR φ.fz v (ev n σ Y):=v2.fz c4;have hlv:vs.length=es.length:=a3.length;have hsz:∀u∈vs,u.cells.size=sz:=fun u hu=>(a4 u hu).1;rcases a2.2 with⟨rfl,hn⟩|⟨gb,cap,cur,rfl,g1,g2,g3,g4,g5,g6⟩
 ·simp[Value.ownBlock] at e2
 ·have:gb=k:=by simpa [Value.ownBlock] using e2
  subst this;have hcap:(i+1)*sz≤cap*sz:=Nat.mul_le_mul_right sz (by omega);have hcap2:(i+1)*sz≤es.length*sz:=Nat.mul_le_mul_right sz (by omega);have hcap3:es.length*sz≤cap*sz:=Nat.mul_le_mul_right sz g3
  have e3:(i+1)*sz=i*sz+sz:=by rw[Nat.add_mul,Nat.one_mul]
  have hrun:=run_storeCells_at P gb (i*sz) e (ev n σ Y).cells.toList 0 cur w g2 (by omega) hones;rw[hyl,Nat.add_zero] at hrun
  have hst:(Instr.storeAt t (.pointer (some ⟨gb,i*sz,none⟩)) (ev n σ Y)).run P w=(storeCells ⟨gb,i*sz,none⟩ (ev n σ Y).cells.toList).run P w:=by
   simp only[Instr.storeAt,Instr.sureAddr,Sem.run_bind,Sem.run_pure,Result.andThen_ok,storeVar,C4 ht];rw[if_neg (by simp[hlen])]
  obtain⟨C,hC⟩:∃C,cur.toList.take (i*sz)++(ev n σ Y).cells.toList++cur.toList.drop (i*sz+sz)=C:=⟨_,rfl⟩
  rw[hC] at hrun;have hrun':=hst.trans hrun
  have hcl:cur.toList.length=cap*sz:=by rw[Array.length_toList];exact g5
  have hclen:C.length=cap*sz:=by rw[←hC];simp only[List.length_append,List.length_take,List.length_drop];omega
  have hset:=X75 (vs:=vs) i (ev n σ Y) hsz (by omega)
  have h4:∀z∈vs.set i (ev n σ Y),z.cells.size=sz∧∀c∈z.cells.toList,c.oneCell'=true:=fun z hz=>by
   rcases List.mem_or_eq_of_mem_set hz with hz|rfl
   ·exact a4 z hz
   ·exact⟨hlen,hones⟩
  have hat:At B φ (w.setRow gb C.toArray) b (.grow (es.set i v) e sz):=by
   refine⟨_,vs.set i (ev n σ Y),e1,?_,VRl.set i a3 hnew,h4⟩;rw[List.length_set];refine⟨by rw[Hs (sz:=sz) (fun z hz=>(h4 z hz).1),List.length_set,hlv],.inr ⟨gb,cap,C.toArray,rfl,Nat.zero_le _,setRow_heap w gb cur _ e _ g2,g3,g4,by simpa using hclen,?_⟩⟩;rw[hset,List.toList_toArray,←hC,X0k (by omega) (by omega) hyl,g6]
  have hgi:img φ b (.grow es e sz) gb:=by simp only[img,e1,Option.bind_some];rfl
  have hrel:Rel B φ (B1 b (.grow (es.set i v) e sz) x.h) (w.setRow gb C.toArray):=by
   refine hx.rel.setO hb (hx.rel.below.to rfl rfl rfl ?_ fun q hq=>setRow_other w gb q _ ?_) ?_ (fun q _ hq=>setRow_other w gb q _ ?_) hat (fun k hk=>hk)
   ·simp
   ·rintro rfl;exact(hx.rel.gf b _ q hb hgi).1 hq
   ·simp
   ·rintro rfl;exact hq hgi
  refine Hd (Cs hx.fr hg) (w':=w.setRow gb C.toArray) ?_ (next φ _ _ ⟨hx.fr.put hp L4,hrel,hx.dom,hx.old,hx.new,hx.base⟩)
  have hrun2:(Instr.storeAt t (ev n σ X) (ev n σ Y)).run P w = .ok () (w.setRow gb C.toArray):=by rw[hv];exact hrun'
  exact Se hrun2
end
section
variable {P : Program} {B : Bas} {w : World} {F F0 : Cx} {n : Nat} {φ : Phi} {σ : Nat → Value} {K : Exit → St → Prop} {x y : St} {ops : Array Oper}
theorem Holds.thawE {b e sz i j e1 s1:Nat} {es c:List AV} (h:Holds B F n x φ σ w) (hb:A3 b x.h=some (.grow es e sz)) (ha:es[i]? = some (.agg c)) (hj:c[j]? = some .nils) (hs1:0 < s1) :
  ∃φ',Holds B F n ⟨x.s,B1 b (.gh (es.set i (.agg (c.set j Bl))) e sz (i*sz+j) x.nx) (B1 x.nx (.grow [] e1 s1) x.h),x.nx+1⟩ φ' σ w:=by
 obtain⟨v,vs,a1,a2,a3,a4⟩:=h.rel.obj b _ hb;obtain⟨u,hu,hua⟩:=a3.get ha;simp only[VR] at hua;obtain⟨us,h5,rfl⟩:=hua;obtain⟨z,hz,hzv⟩:=h5.get hj;have hzv':VR φ .nils z:=hzv.mono (Phi.le_fz φ);obtain⟨φ1,hle,r1,d1,hs1',hf1⟩:=Rx (e:=e1) (sz:=s1) (a:=.nils) (h:=x.h) (nx:=x.nx) rfl hs1 hzv' h.rel h.dom
 have hne:b≠x.nx:=by
  rintro rfl;rw[(h.dom _ (Nat.le_refl _)).2] at a1;cases a1
 have hb1:A3 b (B1 x.nx (.grow [] e1 s1) x.h)=some (.grow es e sz):=by rw[Hp _ hne];exact hb
 refine⟨φ1,fun u c q=>(h.fr u c q).mono hle,?_,d1,fun b o q=>by rw[hf1];exact h.old b o q,fun b o q=>by rw[hf1] at q;exact h.new b o q,fun b o q=>hle.m _ _ (h.base b o q)⟩;refine r1.add (b:=b) (o:=.gh (es.set i (.agg (c.set j Bl))) e sz (i*sz+j) x.nx) ⟨v,vs,z,hle.s _ _ a1,by rw[List.length_set];exact a2,(a3.mono (Dd hle.f)).put hu ?_,a4,hs1',?_⟩ ?_
 ·simp only[VR];exact⟨us,(h5.mono (Dd hle.f)).put hz Lh,rfl⟩
 ·exact Qm (fun u hu=>(a4 u hu).1) hu (by simpa [Value.cells] using hz)
 ·intro q hq;have hq':img φ1 b (.grow es e sz) q:=hq;obtain⟨g1,g2,g3⟩:=r1.gf b _ q hb1 hq';exact⟨g1,g2,g3,fun c o' hc hg hi=>hc (r1.sep c b o' _ q hg hb1 hi hq')⟩
theorem Y48 {l:List Oper} (b i j e1 s1:Nat) {e sz:Nat} {es c:List AV} (hb:A3 b x.h=some (.grow es e sz)) (ha:es[i]? = some (.agg c)) (hj:c[j]? = some .nils) (hs1:0 < s1)
  (next:SO P n ops l B F K ⟨x.s,B1 b (.gh (es.set i (.agg (c.set j Bl))) e sz (i*sz+j) x.nx) (B1 x.nx (.grow [] e1 s1) x.h),x.nx+1⟩):SO P n ops l B F K x:=fun φ σ w hx=>by
 obtain⟨φ',hh⟩:=hx.thawE hb ha hj hs1;exact next _ _ _ hh
theorem Y5m {rest:List Oper} {t:TypeId} {X:Operand} {dst:Option Tmp} {ty:TypeId} {ps:String} {af:Array Edge} {g:Option (Nat × Bool)} {b e sz o k e1 s1:Nat} {es es1:List AV} {s':Fr}
  (hg:Cp ops x.s g=true) (hX:evA x.s X=some (.op b o)) (hb:A3 b x.h=some (.gh es e sz o k)) (hk:A3 k x.h=some (.grow es1 e1 s1)) (ht:Hz P t=some false)
  (hp:B3 n dst (.own k) x.s=some s') (next:SO P n ops rest B F K ⟨s',x.h,x.nx⟩):SO P n ops (⟨dst,.load t X,ty,ps,af,g⟩::rest) B F K x:=by
 intro φ σ w hx;have v1:=hx.fr.ev _ _ hX;simp only[VR] at v1;obtain⟨hd,q,e1,e2,hv⟩:=v1;obtain⟨v,vs,z,a1,a2,a3,a4,a5,a6⟩:=hx.rel.obj b _ hb;obtain⟨v',vs',b1,b2,_⟩:=hx.rel.obj k _ hk;rw[a5] at b1;cases b1;rw[e1] at a1;cases a1;have hc:=a2.cells e2 _ _ a6;rw[Fb,Nat.zero_add] at hc;obtain⟨ad,cc,hform⟩:=Su b2;refine B8 (Cs hx.fr hg) (v:=z) ?_ (next φ _ w ⟨hx.fr.put hp ?_,hx.rel,hx.dom,hx.old,hx.new,hx.base⟩)
 ·simp[execOp,hv,Instr.loadAt,Instr.sureAddr,loadVar,Kw ht,hc,go_sem]
 ·simp only[VR];exact⟨a5,ad,_,cc,hform⟩
theorem Y5a {rest:List Oper} {t:TypeId} {X Y:Operand} {dst:Option Tmp} {ty:TypeId} {ps:String} {af:Array Edge} {g:Option (Nat × Bool)} {b e sz i j o k:Nat} {es l l':List AV} {s':Fr}
  (hg:Cp ops x.s g=true) (hX:evA x.s X=some (.op b o)) (ho:o=i*sz+j) (hY:evA x.s Y=some (.own k)) (hb:A3 b x.h=some (.grow es e sz)) (ha:es[i]? = some (.agg l)) (hj:Nat.ble (j+1) l.length=true)
  (hl:(l.take j++[Bl])++l.drop (j+1)=l') (ht:tsz P t=some 1)
  (hp:B3 n dst (.tup []) x.s=some s') (next:SO P n ops rest B F K ⟨s',B1 b (.gh (es.set i (.agg l')) e sz (i*sz+j) k) x.h,x.nx⟩):SO P n ops (⟨dst,.store t X Y,ty,ps,af,g⟩::rest) B F K x:=by
 subst ho hl;intro φ σ w hx;have v1:=hx.fr.ev _ _ hX;have v2:=hx.fr.ev _ _ hY;simp only[VR] at v1 v2;obtain⟨hd,q,e1,e2,hv⟩:=v1;obtain⟨y1,ya,yn,yc,hy⟩:=v2;obtain⟨v0,vs,a1,a2,a3,a4⟩:=hx.rel.obj b _ hb;rw[e1] at a1;cases a1;obtain⟨u,hu,hua⟩:=a3.get ha;simp only[VR] at hua;obtain⟨us,h5,rfl⟩:=hua;obtain⟨hi,hui⟩:=List.getElem?_eq_some_iff.1 hu
 have hmem:Value.agg us.toArray∈vs:=by rw[←hui];exact List.getElem_mem hi
 have hus:us.length=sz:=by have:=(a4 _ hmem).1;simpa [Value.cells] using this
 have hl5:=h5.length;have hj':=Nat.le_of_ble_eq_true hj
 have hjs:j < sz:=by omega
 have hyc:(ev n σ Y).cells.toList=[ev n σ Y]:=by rw[hy];rfl
 have hones:∀c∈(ev n σ Y).cells.toList,c.oneCell'=true:=by rw[hyc,hy];intro c hc;simp at hc;subst hc;rfl
 have hylen:(ev n σ Y).cells.size=1:=by rw[←Array.length_toList,hyc];rfl
 rcases a2.2 with⟨rfl,hn⟩|⟨gb,cap,cur,rfl,g1,g2,g3,g4,g5,g6⟩
 ·simp[Value.ownBlock] at e2
 ·have:gb=q:=by simpa [Value.ownBlock] using e2
  subst this;have hne:=a3.length;have hcap:(i+1)*sz≤cap*sz:=Nat.mul_le_mul_right sz (by omega)
  have e3:(i+1)*sz=i*sz+sz:=by rw[Nat.add_mul,Nat.one_mul]
  have hyl:(ev n σ Y).cells.toList.length=1:=by rw[Array.length_toList];exact hylen
  have hrun:=run_storeCells_at P gb (i*sz+j) e (ev n σ Y).cells.toList 0 cur w g2 (by omega) hones;rw[hyl,Nat.add_zero] at hrun
  have hst:(Instr.storeAt t (.pointer (some ⟨gb,i*sz+j,none⟩)) (ev n σ Y)).run P w=(storeCells ⟨gb,i*sz+j,none⟩ (ev n σ Y).cells.toList).run P w:=by
   simp only[Instr.storeAt,Instr.sureAddr,Sem.run_bind,Sem.run_pure,Result.andThen_ok,storeVar,C4 ht];rw[if_neg (by simp[hylen])]
  obtain⟨C,hC⟩:∃C,cur.toList.take (i*sz+j)++(ev n σ Y).cells.toList++cur.toList.drop (i*sz+j+1)=C:=⟨_,rfl⟩
  rw[hC] at hrun;have hrun':=hst.trans hrun
  have hnew:VR φ.fz (.agg ((l.take j++[Bl])++l.drop (j+1))) (.agg (((us.take j++(ev n σ Y).cells.toList)++us.drop (j+1))).toArray):=by
   simp only[VR];exact⟨_,((h5.take j).append (by rw[hyc];exact .single Lh)).append (h5.drop _),rfl⟩
  have hnl:((us.take j++(ev n σ Y).cells.toList)++us.drop (j+1)).length=sz:=by simp only[List.length_append,List.length_take,List.length_drop];omega
  have hsz:∀u∈vs,u.cells.size=sz:=fun u hu=>(a4 u hu).1;have hiv:i < vs.length:=hi;have hlv:es.length=vs.length:=a3.length.symm
  have hvs:vs=vs.take i++vs[i]::vs.drop (i+1):=by
   rw[List.getElem_cons_drop,List.take_append_drop]
  have hA:((vs.take i).flatMap fun u=>u.cells.toList).length=i*sz:=by
   rw[Hs (fun u hu=>hsz u (List.mem_of_mem_take hu)),List.length_take,Nat.min_eq_left (by omega)]
  have hthree:(vs.flatMap fun u=>u.cells.toList)=((vs.take i).flatMap fun u=>u.cells.toList)++(us++(vs.drop (i+1)).flatMap fun u=>u.cells.toList):=by
   conv=>lhs;rw[hvs]
   rw[List.flatMap_append,List.flatMap_cons,hui];simp[Value.cells]
  have hcur:cur.toList=(((vs.take i).flatMap fun u=>u.cells.toList)++(us++(vs.drop (i+1)).flatMap fun u=>u.cells.toList))++cur.toList.drop (es.length*sz):=by
   rw[←hthree,←g6,List.take_append_drop]
  have hCC:C=(((vs.take i).flatMap fun u=>u.cells.toList)++((((us.take j++(ev n σ Y).cells.toList)++us.drop (j+1)))++(vs.drop (i+1)).flatMap fun u=>u.cells.toList))++cur.toList.drop (es.length*sz):=by
   rw[←hC]
   conv=>lhs;rw[hcur,←hA]
   exact Zz hyl (by omega)
  have hset:((vs.set i (.agg (((us.take j++(ev n σ Y).cells.toList)++us.drop (j+1))).toArray)).flatMap fun u=>u.cells.toList)=((vs.take i).flatMap fun u=>u.cells.toList)++((((us.take j++(ev n σ Y).cells.toList)++us.drop (j+1)))++(vs.drop (i+1)).flatMap fun u=>u.cells.toList):=by
   rw[List.set_eq_take_append_cons_drop,if_pos hiv,List.flatMap_append,List.flatMap_cons];simp[Value.cells]
  have hclen:C.length=cap*sz:=by
   have:cur.toList.length=cap*sz:=by rw[Array.length_toList];exact g5
   rw[←hC];simp only[List.length_append,List.length_take,List.length_drop];omega
  have hsz2:∀z∈vs.set i (.agg (((us.take j++(ev n σ Y).cells.toList)++us.drop (j+1))).toArray),z.cells.size=sz∧∀c∈z.cells.toList,c.oneCell'=true:=by
   intro z hz;rcases List.mem_or_eq_of_mem_set hz with hz|rfl
   ·exact a4 z hz
   ·refine⟨by simpa [Value.cells] using hnl,fun c hc=>?_⟩;simp only[Value.cells,List.toList_toArray,List.mem_append] at hc;rcases hc with (hc|hc)|hc
    ·exact(a4 _ hmem).2 c (by simp only[Value.cells,List.toList_toArray];exact List.mem_of_mem_take hc)
    ·exact hones c hc
    ·exact(a4 _ hmem).2 c (by simp only[Value.cells,List.toList_toArray];exact List.mem_of_mem_drop hc)
  have hat:At B φ (w.setRow gb C.toArray) b (.gh (es.set i (.agg ((l.take j++[Bl])++l.drop (j+1)))) e sz (i*sz+j) k):=by
   refine⟨_,vs.set i (.agg (((us.take j++(ev n σ Y).cells.toList)++us.drop (j+1))).toArray),_,e1,?_,VRl.set i a3 hnew,hsz2,y1,?_⟩
   ·rw[List.length_set];refine⟨?_,.inr ⟨gb,cap,C.toArray,rfl,Nat.zero_le _,setRow_heap w gb cur _ e _ g2,g3,g4,by simpa using hclen,?_⟩⟩
    ·rw[Hs (sz:=sz) (fun z hz=>(hsz2 z hz).1),List.length_set,hlv]
    ·rw[hset,List.toList_toArray,hCC];refine List.take_left' ?_;have:=congrArg List.length hset;rw[←this,Hs (sz:=sz) (fun z hz=>(hsz2 z hz).1),List.length_set,hlv]
   ·refine Qm (fun u hu=>(hsz2 u hu).1) (by rw[List.getElem?_set_self hiv]) ?_;show((us.take j++(ev n σ Y).cells.toList)++us.drop (j+1))[j]? = _;rw[List.append_assoc,List.getElem?_append_right (by rw[List.length_take];omega),List.length_take,Nat.min_eq_left (by omega),Nat.sub_self,hyc];rfl
  have hgi:img φ b (.grow es e sz) gb:=by simp only[img,e1,Option.bind_some];rfl
  have hrel:Rel B φ (B1 b (.gh (es.set i (.agg ((l.take j++[Bl])++l.drop (j+1)))) e sz (i*sz+j) k) x.h) (w.setRow gb C.toArray):=by
   refine hx.rel.setO hb (hx.rel.below.to rfl rfl rfl ?_ fun q hq=>setRow_other w gb q _ ?_) ?_ (fun q _ hq=>setRow_other w gb q _ ?_) hat (fun k hk=>hk)
   ·simp
   ·rintro rfl;exact(hx.rel.gf b _ q hb hgi).1 hq
   ·simp
   ·rintro rfl;exact hq hgi
  refine Hd (Cs hx.fr hg) (w':=w.setRow gb C.toArray) ?_ (next φ _ _ ⟨hx.fr.put hp L4,hrel,hx.dom,hx.old,hx.new,hx.base⟩)
  have hrun2:(Instr.storeAt t (ev n σ X) (ev n σ Y)).run P w = .ok () (w.setRow gb C.toArray):=by rw[hv];exact hrun'
  exact Se hrun2
theorem Holds.stillE (P:Program) {b e sz i j k e1 s1:Nat} {es xs c:List AV} (h:Holds B F n x φ σ w) (hb:A3 b x.h=some (.gh es e sz (i*sz+j) k)) (hk:A3 k x.h=some (.grow xs e1 s1)) (ha:es[i]? = some (.agg c)) (hj:Nat.ble (j+1) c.length=true) {r:AV} (hs:Same (.row s1 xs.length (fun q=>xs.getD q Bl)) r) :
  ∃φ',Holds B F n ⟨x.s,B1 b (.grow (es.set i (.agg (c.set j r))) e sz) (Cr k x.h),x.nx⟩ φ' σ w:=by
 have hbk:b≠k:=by rintro rfl;rw[hb] at hk;cases hk
 obtain⟨v,vs,hd,a1,a2,a3,a4,a5,a6⟩:=h.rel.obj b _ hb;obtain⟨v',vs',b1,b2,_⟩:=h.rel.obj k _ hk;rw[a5] at b1;cases b1;obtain⟨ad,cc,hform⟩:=Su b2
 have hr:Dk P x.h (.own k)=some (.row s1 xs.length (fun q=>xs.getD q Bl),Cr k x.h):=by unfold Dk;rw[hk]
 have hva:VR φ (.own k) hd:=by simp only[VR];exact⟨a5,ad,_,cc,hform⟩
 obtain⟨F',f1,f2,f3,f4⟩:=Tm hr B φ w _ h.rel (VRl.single hva);obtain⟨_,hv',f5⟩:=f4.single_inv;cases hv'
 have hb':A3 b (Cr k x.h)=some (.gh es e sz (i*sz+j) k):=by rw[Hq hbk];exact hb
 obtain⟨u,hu,hua⟩:=a3.get ha;simp only[VR] at hua;obtain⟨us,h5,rfl⟩:=hua;have hj':=Nat.le_of_ble_eq_true hj;have hl5:=h5.length
 have hz:us[j]? = some hd:=by
  have h1:=Qm (j:=j) (u:=us[j]'(by omega)) (fun u hu=>(a4 u hu).1) hu (by simp only[Value.cells,List.toList_toArray];exact List.getElem?_eq_getElem (by omega));rw[a6] at h1;cases h1;exact List.getElem?_eq_getElem (by omega)
 have hle:=leF f1;refine⟨⟨φ.m,φ.s,F'⟩,fun t a q=>(h.fr t a q).mono hle,f3.setO hb' f3.below (Nat.le_refl _) (fun _ _ _=>rfl) ⟨v,vs,a1,by rw[List.length_set];exact a2,(a3.mono (Dd hle.f)).put hu ?_,a4⟩ (fun k hk=>hk),h.dom,fun b o e=>f1 _ _ (h.old b o e),fun b o e=>(f2 b o e).elim (h.new b o) .inr,h.base⟩;simp only[VR];exact⟨us,(h5.mono (Dd hle.f)).put hz (hs _ _ f5),rfl⟩
theorem Y5c {l:List Oper} (b i j k:Nat) {e sz e1 s1:Nat} {es xs c:List AV} (hb:A3 b x.h=some (.gh es e sz (i*sz+j) k)) (hk:A3 k x.h=some (.grow xs e1 s1)) (ha:es[i]? = some (.agg c)) (hj:Nat.ble (j+1) c.length=true) {r:AV} (hs:Same (.row s1 xs.length (fun q=>xs.getD q Bl)) r)
  (next:SO P n ops l B F K ⟨x.s,B1 b (.grow (es.set i (.agg (c.set j r))) e sz) (Cr k x.h),x.nx⟩):SO P n ops l B F K x:=fun φ σ w hx=>by
 obtain⟨φ',hh⟩:=Holds.stillE P hx hb hk ha hj hs;exact next _ _ _ hh
end
noncomputable def K6:Nat→List (List UInt8 × Value)→List (AV × AV × Nat)
 |_,[]=>[]
 |k,p::r=>(.str p.1,.raw p.2,k)::K6 (k+1) r
noncomputable def Fe (m:List (List UInt8 × Value)):List (AV × AV × Nat):=K6 0 m
theorem Zq (p:List UInt8 × Value):∀(k:Nat) (m:List (List UInt8 × Value)),K6 k (m++[p])=K6 k m++[(.str p.1,.raw p.2,k+m.length)]
 |k,[]=>rfl
 |k,q::r=>by
  have:=Zq p (k+1) r;simp only[List.cons_append,K6,this,List.length_cons];rw[show k+1+r.length=k+(r.length+1) by omega]
theorem Pk {φ:Phi}:∀{m:List (List UInt8 × Value)} {k:Nat} {l:List MapEntry},MR φ (K6 k m) l→l.map (fun e=>(e.key,e.val))=Ds S id m
 |[],_,_,h=>by simp only[K6,MR] at h;subst h;rfl
 |p::r,k,_,h=>by
  simp only[K6,MR,VR] at h;obtain⟨e,l',rfl,h1,h2,_,h4⟩:=h;simp only[List.map_cons,Ds,Pk h4,h1,h2];rfl
section
variable {P : Program} {B : Bas} {w : World} {F F0 : Cx} {n : Nat} {φ : Phi} {σ : Nat → Value} {K : Exit → St → Prop} {x y : St} {ops : Array Oper}
theorem Rel.mst {h:AH} (r:Rel B φ h w) {b x0 κ:Nat} {l:Array MapEntry} {m:List (List UInt8 × Value)} {k:List UInt8} {v:Value} (hb:A3 b h=some (.map (Fe m) m.length)) (e0:φ b=some (x0,κ)) (h2:w.heap[x0]? = some (.map l m.length)) (h3:MR φ.fz (Fe m) l.toList) :
  Rel B φ (B1 b (.map (Fe (m++[(k,v)])) (m++[(k,v)]).length) h) { w with heap:=w.heap.setIfInBounds x0 (.map (l.push { key:=S k,val:=v,born:=m.length }) (m.length+1)) }:=by
 have hlt:x0 < w.heap.size:=Dl h2;refine r.set hb rfl rfl e0 rfl rfl rfl (by simp) (fun j hj=>by simp[Array.getElem?_setIfInBounds,Ne.symm hj]) ⟨x0,κ,_,e0,(by simp[hlt];rfl),?_⟩;rw[Array.toList_push,Fe,Zq,Nat.zero_add];exact MR.snoc (e:={ key:=S k,val:=v,born:=m.length }) (by simp only[VR]) (by simp only[VR]) h3
theorem Y5i {rest:List Oper} {t kt et:TypeId} {X I Y:Operand} {ty:TypeId} {ps:String} {af:Array Edge} {g:Option (Nat × Bool)} (b:Nat) (m:List (List UInt8 × Value)) (k:List UInt8) (v:Value)
  (hg:Cp ops x.s g=true) (hX:evA x.s X=some (.map b)) (hI:evA x.s I=some (.str k)) (hY:evA x.s Y=some (.raw v)) (hb:A3 b x.h=some (.map (Fe m) m.length)) (hn:Bj m k=none)
  (ht:P.underlying t=some (.map kt et)) (hk:P.underlying kt=some .string) (next:SO P n ops rest B F K ⟨x.s,B1 b (.map (Fe (m++[(k,v)])) (m++[(k,v)]).length) x.h,x.nx⟩):SO P n ops (⟨none,.insert t X I Y,ty,ps,af,g⟩::rest) B F K x:=by
 intro φ σ w hx;have v1:=hx.fr.ev _ _ hX;have v2:=hx.fr.ev _ _ hI;have v3:=hx.fr.ev _ _ hY;simp only[VR] at v1 v2 v3;obtain⟨x0,κ,e0,v1⟩:=v1;obtain⟨x1,κ1,l,h1,h2,h3⟩:=hx.rel.obj b _ hb;rw[e0] at h1;cases h1;obtain⟨r,f1,f2,f3⟩:=Nv (Lg hk) k l.toList m (Pk h3) w;rw[hn] at f2;have hc:=(Lg hk).check false 9999 k w
 cases r with
 |some p=>simp at f2
 |none =>
  refine Hd (w':={ w with heap:=w.heap.setIfInBounds x0 (.map (l.push { key:=S k,val:=v,born:=m.length }) (m.length+1)) }) (Cs hx.fr hg) ?_ (next φ _ _ ⟨hx.fr,hx.rel.mst hb e0 h2 h3,hx.dom,hx.old,hx.new,hx.base⟩);have v2':ev n σ I=S k:=v2;simp[execOp,v1,v2',v3,Instr.mapUpdate,run_underlying ht,getObj,setObj,Sem.run,h2,hc,f1,go_sem]
theorem Y5h {rest:List Oper} {t kt et:TypeId} {X I Y:Operand} {ty:TypeId} {ps:String} {af:Array Edge} {g:Option (Nat × Bool)} (b:Nat) (m:List (List UInt8 × Value)) (k:List UInt8) (v:Value)
  (hg:Cp ops x.s g=true) (hX:evA x.s X=some (.map b)) (hI:evA x.s I=some (.str k)) (hY:evA x.s Y=some (.raw v)) (hb:A3 b x.h=some (.map (Fe m) m.length)) (hn:Bj m k=none)
  (ht:P.underlying t=some (.map kt et)) (hk:P.underlying kt=some .string) (next:SO P n ops rest B F K ⟨x.s,B1 b (.map (Fe (m++[(k,v)])) (m++[(k,v)]).length) x.h,x.nx⟩):SO P n ops (⟨none,.mapUpdate t X I Y,ty,ps,af,g⟩::rest) B F K x:=by
 intro φ σ w hx;have v1:=hx.fr.ev _ _ hX;have v2:=hx.fr.ev _ _ hI;have v3:=hx.fr.ev _ _ hY;simp only[VR] at v1 v2 v3;obtain⟨x0,κ,e0,v1⟩:=v1;obtain⟨x1,κ1,l,h1,h2,h3⟩:=hx.rel.obj b _ hb;rw[e0] at h1;cases h1;obtain⟨r,f1,f2,f3⟩:=Nv (Lg hk) k l.toList m (Pk h3) w;rw[hn] at f2;have hc:=(Lg hk).check false 9999 k w
 cases r with
 |some p=>simp at f2
 |none =>
  refine Hd (w':={ w with heap:=w.heap.setIfInBounds x0 (.map (l.push { key:=S k,val:=v,born:=m.length }) (m.length+1)) }) (Cs hx.fr hg) ?_ (next φ _ _ ⟨hx.fr,hx.rel.mst hb e0 h2 h3,hx.dom,hx.old,hx.new,hx.base⟩);have v2':ev n σ I=S k:=v2;simp[execOp,v1,v2',v3,Instr.mapUpdate,run_underlying ht,getObj,setObj,Sem.run,h2,hc,f1,go_sem]
theorem Y5g {rest:List Oper} {t kt et:TypeId} {X I:Operand} {dst:Option Tmp} {ty:TypeId} {ps:String} {af:Array Edge} {g:Option (Nat × Bool)} (b:Nat) (m:List (List UInt8 × Value)) (k:List UInt8) (z:Value) {c:Nat} {s':Fr}
  (hg:Cp ops x.s g=true) (hX:evA x.s X=some (.map b)) (hI:evA x.s I=some (.str k)) (hb:A3 b x.h=some (.map (Fe m) c))
  (ht:P.underlying t=some (.map kt et)) (hk:P.underlying kt=some .string) (hz:∀w,(zeroValue et).run P w = .ok z w)
  (hp:B3 n dst (.tup [.raw ((Bj m k).getD z),.bool (Bj m k).isSome]) x.s=some s') (next:SO P n ops rest B F K ⟨s',x.h,x.nx⟩):SO P n ops (⟨dst,.lookup t X I true,ty,ps,af,g⟩::rest) B F K x:=by
 intro φ σ w hx;have v1:=hx.fr.ev _ _ hX;have v2:=hx.fr.ev _ _ hI;simp only[VR] at v1 v2;obtain⟨x0,κ,e0,v1⟩:=v1;obtain⟨x1,κ1,l,h1,h2,h3⟩:=hx.rel.obj b _ hb;rw[e0] at h1;cases h1;refine B8 (Cs hx.fr hg) (Y6b (enc:=S) (val:=id) (k:=k) (m:=m) v1 v2 ⟨_,_,h2,Pk h3⟩ (Lg hk) ht hz) (next φ _ w ⟨hx.fr.put hp ?_,hx.rel,hx.dom,hx.old,hx.new,hx.base⟩);simp only[VR];refine⟨_,.cons (v:=(Bj m k).getD z) (by simp only[VR]) (.cons (v:=.bool (Bj m k).isSome) (by simp only[VR]) .nil),?_⟩;cases Bj m k<;>rfl
theorem Holds.stillM {b j d e c:Nat} {cs:List AV} {m:List (List UInt8 × Value)} (h:Holds B F n x φ σ w) (z:Value) (hb:A3 b x.h=some (.row cs e)) (hj:cs[j]? = some (.map d)) (hd:A3 d x.h=some (.map (Fe m) c)) :
  ∃φ',Holds B F n ⟨x.s,B1 b (.row (cs.set j (.smap z (fun s => .raw ((Bj m s).getD z)))) e) (Cr d x.h),x.nx⟩ φ' σ w:=by
 have hne:b≠d:=by rintro rfl;rw[hb] at hd;cases hd
 obtain⟨x0,κ,l,h1,h2,h3⟩:=h.rel.obj d _ hd;obtain⟨k1,k2,k3⟩:=h.rel.still hd (k:=x0) (by simp[img,h1]) h2
 have hb':A3 b (Cr d x.h)=some (.row cs e):=by rw[Hq hne];exact hb
 obtain⟨xb,κb,vs,a1,a2,a3⟩:=k1.obj b _ hb';obtain⟨v,hv,hvm⟩:=a3.get hj;simp only[VR] at hvm;obtain⟨y0,κ0,q1,rfl⟩:=hvm
 have:y0=x0:=by have q1':φ d=some (y0,κ0):=q1;rw[h1] at q1';cases q1';rfl
 subst this;have hle:=leF k2;refine⟨_,fun t a q=>(h.fr t a q).mono hle,k1.setO hb' k1.below (Nat.le_refl _) (fun _ _ _=>rfl) ⟨xb,κb,vs,a1,a2,a3.put hv ?_⟩ (fun k hk=>hk),h.dom,fun b o e=>k2 _ _ (h.old b o e),fun b o e=>(k3 b o e).elim (h.new b o) .inr,h.base⟩;simp only[VR];refine⟨y0,l,c,m,rfl,if_pos rfl,Pk h3,fun s=>⟨fun u hu=>?_,fun hu=>?_⟩⟩
 ·rw[hu];rfl
 ·rw[hu];rfl
theorem Y5b {l:List Oper} (b j d:Nat) (z:Value) {e c:Nat} {cs:List AV} {m:List (List UInt8 × Value)} (hb:A3 b x.h=some (.row cs e)) (hj:cs[j]? = some (.map d)) (hd:A3 d x.h=some (.map (Fe m) c))
  (next:SO P n ops l B F K ⟨x.s,B1 b (.row (cs.set j (.smap z (fun s => .raw ((Bj m s).getD z)))) e) (Cr d x.h),x.nx⟩):SO P n ops l B F K x:=fun φ σ w hx=>by
 obtain⟨φ',hh⟩:=hx.stillM z hb hj hd;exact next _ _ _ hh
variable {dst : Option Tmp} {X Y : Operand} {t t' : TypeId} {ts : Array TypeId} {ty : TypeId} {ps : String} {af : Array Edge} {g : Option (Nat × Bool)} {s : Fr}
def HasV (s:Fr) (X:Operand) (a:AV):Prop:=evA s X=some a∨∃q,evA s X=some (.cond q a)∧q=true
theorem HasV.get {s:Fr} {X:Operand} {a:AV} (h:HasV s X a) (hf:FRel φ n s σ):VR φ a (ev n σ X):=by
 rcases h with h|⟨q,h,hq⟩
 ·exact hf.ev _ _ h
 ·have:=hf.ev _ _ h;simp only[VR] at this;exact this.1 hq
theorem Q67 {a b c d:Nat} (hx:evA s X=some (.raw (cxv (a,b)))) (hy:evA s Y=some (.raw (cxv (c,d)))) (ha:a < 44) (hb:b < 44) (hc:c < 2) (hd:d < 2) (φ:Phi) (σ:Nat→Value) (h:FRel φ n s σ) :
  ∃v,(∀w,(execOp (ev n σ) ⟨dst,.binOp .add t X Y t',ty,ps,af,g⟩).run P w = .ok (.value v) w)∧VR φ (.raw (cxv (a+c,b+d))) v:=by
 have h1:=h.ev _ _ hx;have h2:=h.ev _ _ hy;simp only[VR] at h1 h2;exact⟨_,fun w=>Y6i h1 h2 ha hb hc hd,by simp only[VR]⟩
theorem X67 {a b:Nat} (hx:HasV s X (.raw (cxv (a,b)))) (φ:Phi) (σ:Nat→Value) (h:FRel φ n s σ) :
  ∃v,(∀w,(execOp (ev n σ) ⟨dst,.call { callee:=.builtin .imag,args := #[X],argTypes := #[t] },ty,ps,af,g⟩).run P w = .ok (.value v) w)∧VR φ (.raw (.float .f64 (fb b))) v:=by
 have h1:=hx.get h;simp only[VR] at h1;exact⟨_,fun w=>Y6d h1,by simp only[VR]⟩
theorem X2x {a b:Nat} (hx:evA s X=some (.raw (cxv (a,b)))) (φ:Phi) (σ:Nat→Value) (h:FRel φ n s σ) :
  ∃v,(∀w,(execOp (ev n σ) ⟨dst,.call { callee:=.builtin .real,args := #[X],argTypes := #[t] },ty,ps,af,g⟩).run P w = .ok (.value v) w)∧VR φ (.raw (.float .f64 (fb a))) v:=by
 have h1:=h.ev _ _ hx;simp only[VR] at h1;exact⟨_,fun w=>Y56 h1,by simp only[VR]⟩
theorem X8n {a:Nat} (hx:HasV s X (.raw (.float .f64 (fb a)))) (hy:HasV s Y (.raw (.float .f64 (fb 16)))) (ha:a < 44) (φ:Phi) (σ:Nat→Value) (h:FRel φ n s σ) :
  ∃v,(∀w,(execOp (ev n σ) ⟨dst,.binOp .gtr t X Y t',ty,ps,af,g⟩).run P w = .ok (.value v) w)∧VR φ (.bool (decide (16 < a))) v:=by
 have h1:=hx.get h;have h2:=hy.get h;simp only[VR] at h1 h2;exact⟨_,fun w=>Y6f h1 h2 ha,by simp only[VR]⟩
theorem X78 {a:Nat} (hx:evA s X=some (.raw (.float .f64 (fb a)))) (ht:P.underlying t=some (.float .f64)) (ht':P.underlying t'=some (.int .i64)) (ha:a < 44) (φ:Phi) (σ:Nat→Value) (h:FRel φ n s σ) :
  ∃v,(∀w,(execOp (ev n σ) ⟨dst,.convert t t' X,ty,ps,af,g⟩).run P w = .ok (.value v) w)∧VR φ (.int .i64 (a:Int)) v:=by
 have h1:=h.ev _ _ hx;simp only[VR] at h1;exact⟨_,fun w=>Y6e h1 ht ht' ha,by simp only[VR]⟩
end
end Sv
section
open Go Go.RowKit
theorem Y4v {P:Program} {n:Nat} {Q:Exit→(Nat→Value)→World→Prop} {σ:Nat→Value} {w:World} {ops:Array Oper} {rest:List Oper} {x:Operand} {f:FuncId} {fi cap:Array Value} {ar:Array Operand} {ts:Array TypeId} {ty:TypeId} {ps:String} {dst:Option Tmp} {af:Array Edge} {g:Option (Nat × Bool)} {T:Value→World→Prop}
  (hg:gOk ops n σ g=true) (hx:ev n σ x = .func (.func f) fi cap) (he:Ai P f) (hc:Calls P f (fi.toList++(ar.toList.map (ev n σ)++cap.toList)).toArray w (Ret T))
  (next:∀v w',T v w'→WO P n ops rest Q (Bn σ dst v) w') :
  WO P n ops (⟨dst,.call { callee:=.value x,args:=ar,argTypes:=ts },ty,ps,af,g⟩::rest) Q σ w:=by
 refine Nd (R:=Ret T) (w':=w) (f:=f) (args:=(fi.toList++(ar.toList.map (ev n σ)++cap.toList)).toArray) hg ?_ hc ?_ ?_ ?_
 ·have h1:ar.map (ev n σ)=(ar.toList.map (ev n σ)).toArray:=by
   apply Array.ext';simp
  have h2:(fi.toList++(ar.toList.map (ev n σ)++cap.toList)).toArray=fi++(ar.toList.map (ev n σ)).toArray++cap:=by
   apply Array.ext';simp
  have:=he (fi++(List.map (ev n σ) ar.toList).toArray++cap) w;rw[Array.append_assoc] at this;simp only[execOp,resolve,hx,h1,h2];simp[Deferred.ofValue,invoke,go_sem,this]
 ·rintro v w'' ⟨v',hv,hT⟩;cases hv;exact next v w'' hT
 ·rintro w'' o ⟨v',hv,_⟩;cases hv
 ·rintro w'' ⟨v',hv,_⟩;cases hv
namespace Sv
section
variable {P : Program} {B : Bas} {F : Cx} {n : Nat} {K : Exit → St → Prop} {x : St} {ops : Array Oper}
theorem Pb {rest:List Oper} {t:Nat} {f:FuncId} {fi cap:List AV} {ar:Array Operand} {ts:Array TypeId} {ty:TypeId} {ps:String} {dst:Option Tmp} {af:Array Edge} {g:Option (Nat × Bool)} {al:List AV} {r:AV} {s':Fr}
  (hg:Cp ops x.s g=true) (hc:Ck t x.s=some (.fn f fi cap)) (he:Ai P f) (ha:Dw (evA x.s) ar.toList=some al) (hz:frzl (fi++(al++cap))=true) (hf:FnV P f (fi++(al++cap)) r) (hp:B3 n dst r x.s=some s')
  (next:SO P n ops rest B F K ⟨s',x.h,x.nx⟩):SO P n ops (⟨dst,.call { callee:=.value (.tmp t),args:=ar,argTypes:=ts },ty,ps,af,g⟩::rest) B F K x:=by
 intro φ σ w hx;have hfn:=hx.fr _ _ hc;simp only[VR] at hfn;obtain⟨vf,vc,h1,h2,h3⟩:=hfn;have hv:=VRl.fz (h1.append ((E4 hx.fr.ev ha).append h2)) hz;refine Y4v (x:=.tmp t) (fi:=vf.toArray) (cap:=vc.toArray) (Cs hx.fr hg) h3 he (by simpa using hf φ.f w _ hx.rel.fro hv) ?_;rintro v w' ⟨hb,F',h1,h2,h3,h4⟩;have hh:=hx.called hb h1 h2 h3;exact next _ _ _ ⟨hh.fr.put hp (h4.mono (Phi.le_fz ⟨φ.m,φ.s,F'⟩)),hh.rel,hh.dom,hh.old,hh.new,hh.base⟩
theorem Ys {rest:List Oper} {f:FuncId} {ar:Array Operand} {ts:Array TypeId} {ty:TypeId} {ps:String} {dst:Option Tmp} {af:Array Edge} {g:Option (Nat × Bool)} {al al':List AV} {h':AH} {r:AV} {s':Fr}
  (hg:Cp ops x.s g=true) (he:Ai P f) (ha:Dw (evA x.s) ar.toList=some al) (hz:Ky x.h al al' h') (hf:FnV P f al' r) (hr:Me r=true) (hp:B3 n dst r x.s=some s')
  (next:SO P n ops rest B F K ⟨s',x.h,x.nx⟩):SO P n ops (⟨dst,.call { callee:=.value (.func f),args:=ar,argTypes:=ts },ty,ps,af,g⟩::rest) B F K x:=by
 intro φ σ w hx;obtain⟨F',f1,f2,f3,f4⟩:=hz B φ w _ hx.rel (E4 hx.fr.ev ha);refine Cv (Cs hx.fr hg) he (hf F' w _ f3.fro f4) ?_;rintro v w' ⟨hb,F'',h1,h2,h3,h4⟩;have hh:Holds B F n x φ σ w':=hx.called hb (fun _ _ e=>e) (fun b o e=>(hb.block b (Dl (hx.rel.fro b o e))).trans (hx.rel.fro b o e)) (fun _ _ e => .inl e);exact next _ _ _ ⟨hh.fr.put hp (Pw hr h4),hh.rel,hh.dom,hh.old,hh.new,hh.base⟩
theorem Gn {dst:Option Tmp} {X:Operand} {ty:TypeId} {ps:String} {af:Array Edge} {g:Option (Nat × Bool)} {s:Fr} {b o:Nat} (hx:evA s X=some (.op b o)) (φ:Phi) (σ:Nat→Value) (h:FRel φ n s σ) :
  ∃v,(∀w,(execOp (ev n σ) ⟨dst,.nilCheck X,ty,ps,af,g⟩).run P w = .ok (.value v) w)∧VR φ (.op b o) v:=by
 have h1:=h.ev _ _ hx;have h2:=h1;simp only[VR] at h2;obtain⟨hd,k,_,_,hv⟩:=h2;exact⟨.pointer (some ⟨k,o,none⟩),fun w=>by simp[execOp,hv,go_sem],by rw[←hv];exact h1⟩
theorem Wn {h:AH} {b k e e2 sz i f:Nat} {es c:List AV} (hb:A3 b h=some (.grow es e sz)) (hk:A3 k h=some (.row [.op b (i*sz)] e2)) (ha:es[i]? = some (.agg c)) :
  Ky h [.own b,.fn f [] [.ptr k 0]] [.row sz es.length (fun q=>es.getD q Bl),.fn f [] [.fp (.agg [.fp (.agg c)])]] (Cr k (Cr b h)):=by
 intro B φ w vs rl hv;obtain⟨v1,vs1,rfl,hv1,hv2⟩:=hv.cons_inv;obtain⟨v2,rfl,hv3⟩:=hv2.single_inv
 have hbk:k≠b:=by rintro rfl;rw[hb] at hk;cases hk
 have hi:i < es.length:=(List.getElem?_eq_some_iff.1 ha).1;simp only[VR] at hv1;obtain⟨v0,us,q1,q2,q3,q4⟩:=rl.obj b _ hb;rw[hv1.1] at q1;cases q1;have hlen:=q3.length;rcases q2.2 with⟨rfl,hn⟩|⟨g,cap,cur,rfl,hg1,hg2,hg3,hg4,hg5,hg6⟩
 ·omega
 ·have hig:img φ b (.grow es e sz) g:=by simp[img,hv1.1,Value.ownBlock]
  obtain⟨k1,k2,k3⟩:=rl.still hb hig hg2
  have hk':A3 k (Cr b h)=some (.row [.op b (i*sz)] e2):=by rw[Hq hbk];exact hk
  obtain⟨xk,κk,ck,a1,a2,a3⟩:=k1.obj k _ hk';obtain⟨j1,j2,j3⟩:=k1.still hk' (k:=xk) (by simp only[img];rw[a1];rfl) a2;have hle:=Jo j2;obtain⟨z,hzc,hz⟩:=a3.single_inv;simp only[VR] at hz;obtain⟨hd,gk,p1,p2,rfl⟩:=hz;have p1':φ.s b=some hd:=p1;rw[hv1.1] at p1';cases p1'
  have hgk:g=gk:=by simpa [Value.ownBlock] using p2
  subst hgk;refine⟨_,fun b o q=>j2 b o (k2 b o q),fun b o q=>(j3 b o q).elim (fun q=>k3 b o q) .inr,j1,.cons ?_ (.single ?_)⟩
  ·simp only[VR];refine⟨fun i=>nth us i,fun i hi=>(q3.nth hi).mono (Jo fun b o q=>j2 b o (k2 b o q)),?_⟩;exact Pq (F:=fun i=>if i=xk then _ else _) (j2 g _ (if_pos rfl)) hlen hg3 q4 hg6
  ·simp only[VR] at hv3;obtain⟨vf,vc,f1,f2,rfl⟩:=hv3;obtain⟨u,rfl,hu⟩:=f2.single_inv;simp only[VR] at hu;obtain⟨y0,κ0,u1,rfl⟩:=hu
   have:y0=xk:=by have a1':φ k=some (xk,κk):=a1;rw[u1] at a1';cases a1';rfl
   subst this;have:=f1.nil_inv;subst this;obtain⟨ue,hue,hua⟩:=q3.get ha
   have hui:nth us i=ue:=by simp[nth,hue]
   have hrow:=Pq (F:=fun q=>if q=g then some (Obj.cells cur e (0,0)) else φ.f q) (sz:=sz) (c:=cap) (if_pos rfl) hlen hg3 q4 hg6;simp only[VR];refine⟨[],_,.nil,.single (v:=.pointer (some ⟨y0,0,none⟩)) ?_,rfl⟩;simp only[VR];refine⟨y0,0,.agg #[.pointer (some ⟨g,i*sz,none⟩)],rfl,⟨_,.single (v:=.pointer (some ⟨g,i*sz,none⟩)) ?_,rfl⟩,?_⟩
   ·rcases hrow with⟨h0,_⟩|⟨b',o',c',e',_,hrow⟩
    ·omega
    ·simp only[Value.slice.injEq,Option.some.injEq,Addr.mk.injEq] at e';obtain⟨⟨rfl,rfl,_⟩,_,_⟩:=e';have hl:LieAt _ g (0+i*sz) (nth us i).cells.toList:=(hrow i hi).2;rw[hui,Nat.zero_add] at hl;simp only[VR];simp only[VR] at hua;exact⟨g,i*sz,ue,rfl,(by obtain⟨ws,w1,w2⟩:=hua;exact⟨ws,w1.mono (Jo fun b o q=>j2 b o (k2 b o q)),w2⟩),LieAt.mono (φ:=ofF _) (Jo j2) hl⟩
   ·refine⟨ck,_,(0,0),if_pos rfl,fun q u hq=>?_⟩
    have hq0:q=0∧u = .pointer (some ⟨g,i*sz,none⟩):=by
     rcases q with _|q
     ·simp[Value.cells] at hq;exact⟨rfl,hq.symm⟩
     ·simp[Value.cells] at hq
    obtain⟨rfl,rfl⟩:=hq0;refine⟨?_,rfl⟩;rw[←Array.getElem?_toList,hzc];rfl
end
end Sv
end
namespace Sv
section
variable {P : Program} {B : Bas} {w : World} {F F0 : Cx} {n : Nat} {φ : Phi} {σ : Nat → Value} {K : Exit → St → Prop} {x y : St} {ops : Array Oper}
theorem S5 {dst:Option Tmp} {X:Operand} {t ty:TypeId} {ps:String} {af:Array Edge} {g:Option (Nat × Bool)} {s:Fr} {e:TypeId} (ht:Fj P t=some e) (hx:evA s X=some .nils) (φ:Phi) (σ:Nat→Value) (h:FRel φ n s σ) :
  ∃v,(∀w,(execOp (ev n σ) ⟨dst,.call { callee:=.builtin .cap,args := #[X],argTypes := #[t] },ty,ps,af,g⟩).run P w = .ok (.value v) w)∧VR φ (.int .i64 0) v:=by
 have h1:=h.ev _ _ hx;simp only[VR] at h1;exact⟨.int .i64 0,fun w=>by simp[execOp,resolve,invoke,builtin,Builtin.cap_,h1,run_underlying (Ef ht),goInt,go_sem],by simp only[VR]⟩
theorem Q2o {dst:Option Tmp} {X H:Operand} {t e ty:TypeId} {ps:String} {af:Array Edge} {g:Option (Nat × Bool)} {s:Fr} {sz:Nat} (he:Fj P t=some e) (hs:tsz P e=some sz) (hx:evA s X=some .nils) (hh:evA s H=some (.int .i64 0)) (φ:Phi) (σ:Nat→Value) (h:FRel φ n s σ) :
  ∃v,(∀w,(execOp (ev n σ) ⟨dst,.slice t X none (some H) none,ty,ps,af,g⟩).run P w = .ok (.value v) w)∧VR φ .nils v:=by
 have h1:=h.ev _ _ hx;have h2:=h.ev _ _ hh;simp only[VR] at h1 h2;refine⟨.slice none 0 0,fun w=>?_,by simp only[VR]⟩;have hb:=H6 (P:=P) (isS:=true) (len:=0) (cap:=0) (i:=0) (j:=0) (m:=0) (lo:=none) (hi:=some (ev n σ H)) (mx:=none) (.inl ⟨rfl,rfl⟩) (.inr ⟨.i64,by rw[h2];rfl⟩) (.inl ⟨rfl,rfl⟩) (Nat.le_refl _) (Nat.le_refl _) (Nat.le_refl _) w;simp only[execOp,Instr.sliceAt,Instr.slice,Sem.run_bind,Sem.run_pure,run_underlying (Ef he),Result.andThen_ok,h1,hb,C4 hs,Option.map_some,Option.map_none]<;>(try split)<;>rfl
theorem Q8z {rest:List Oper} {t ti:TypeId} {X Y:Operand} {dst:Option Tmp} {ty:TypeId} {ps:String} {af:Array Edge} {g:Option (Nat × Bool)} {e sz:Nat} {z:AV} {s':Fr} (m:Nat) (hm0:0 < m) (hm:m≤8388609)
  (next:SO P n ops rest B F K ⟨s',B1 x.nx (.grow (List.replicate m z) e sz) x.h,x.nx+1⟩)
  (hg:Cp ops x.s g=true:=by kernel_rfl) (hX:evA x.s X=some .nils:=by kernel_rfl) (hY:evA x.s Y=some (.int .i64 (m:Int)):=by kernel_rfl) (ht:Fj P t=some e:=by kernel_rfl) (hti:P.underlying ti=some (.int .i64):=by kernel_rfl)
  (hz:Jc P e=some z:=by kernel_rfl) (hs:tsz P e=some sz:=by kernel_rfl) (hz1:(zok P e sz&&Nat.blt 0 sz&&Nat.beq (cellsOf z).length sz&&!Et z&&ones (cellsOf z)&&(match tby P e with|some b=>Nat.ble b 1000&&Nat.blt 0 b|none=>false))=true:=by kernel_rfl)
  (hp:B3 n dst (.own x.nx) x.s=some s':=by kernel_rfl):SO P n ops (⟨dst,.call { callee:=.builtin .append,args := #[X,Y],argTypes := #[t,ti] },ty,ps,af,g⟩::rest) B F K x:=by
 intro φ σ w hx;have v1:=hx.fr.ev _ _ hX;have v2:=hx.fr.ev _ _ hY;simp only[VR] at v1 v2;obtain⟨zv,z1,z2⟩:=K5 (φ:=φ.fz) hz;simp only[Bool.and_eq_true,Bool.not_eq_true'] at hz1;obtain⟨⟨⟨⟨⟨c0,c6⟩,c1⟩,c2⟩,c3⟩,c4⟩:=hz1
 have c6':0 < sz:=by simpa [Nat.blt_eq] using c6
 obtain⟨by_,hb,hby,hby0⟩:∃b,tby P e=some b∧b≤1000∧0 < b:=by
  split at c4
  ·rename_i b hb;simp only[Bool.and_eq_true] at c4;exact⟨b,hb,Dx c4.1,by simpa [Nat.blt_eq] using c4.2⟩
  ·cases c4
 obtain⟨i,z',hi,hz',hzs,his,hib⟩:=Y4 c0 hs hb
 have hzz:zv=z':=by
  have h1:=z1 w
  have h2:(zeroValue e).run P w = .ok z' w:=by simp[zeroValue,typeInfo,hi,hz',go_sem]
  rw[h2] at h1;cases h1;rfl
 subst hzz;have zc:=z2.cells c2;have zl:zv.cells.size=sz:=hzs;have zo:=zc.ones c3;have hold:(Builtin.firstCells i.size 0 (.slice none 0 0)).run P w.drew = .ok ([]:List Value).toArray w.drew:=run_firstCells_none (P:=P) w.drew i.size 0 0 0;have hmb:m*by_≤8388609*1000:=Nat.mul_le_mul hm hby;have hrun:=Go.Lib.run_append_grow_zeros (P:=P) w t ti ty e i zv .i64 .i64 (Ef ht) hti hi hz' none 0 0 [] hold m hm0 (by omega) (by omega) (by omega) (by rw[hib];omega) (growslice_fits (by omega) (by rw[hib,Nat.zero_add];omega));rw[Nat.zero_add] at hrun;have hge:=grownCap_ge w m 0 e;have hcm:grownCap w m 0 e≤maxLen:=grownCap_le_maxLen w m 0 e (by unfold maxLen;omega);generalize hcap:grownCap w m 0 e=cap at hrun hge hcm;generalize hob:Obj.cells (([]:List Value).toArray++Builtin.zeroCells zv.cells m++Builtin.zeroCells zv.cells (cap-m)) e=ob at hrun;have hsn:=(hx.dom x.nx (Nat.le_refl _)).2;have hle:=Phi.extS_le (v:=.slice (some ⟨w.heap.size,0,none⟩) m cap) hsn;have hfr:FRel (φ.extS x.nx (.slice (some ⟨w.heap.size,0,none⟩) m cap)) n x.s σ:=fun u c q=>(hx.fr u c q).mono hle
 have hzr:VRl φ.fz (List.replicate m z) (List.replicate m zv):=by
  clear hm hm0 hmb hrun hge hcm hcap hob v1 v2 hX hY hfr hle next
  induction m with
  |zero=>exact .nil
  |succ m ih=>rw[List.replicate_succ,List.replicate_succ];exact .cons z2 ih
 have hsz:∀u∈List.replicate m zv,u.cells.size=sz∧∀c∈u.cells.toList,c.oneCell'=true:=fun u hu=>by rw[List.eq_of_mem_replicate hu];exact⟨zl,zo⟩
 have hown:(w.drew.alloc ob).ownsRow 0 e sz (.slice (some ⟨w.heap.size,0,none⟩) m cap) (List.replicate m z).length ((List.replicate m zv).flatMap fun u=>u.cells.toList):=by
  rw[List.length_replicate]
  have hfl:((List.replicate m zv).flatMap fun u=>u.cells.toList).length=m*sz:=by rw[Hs (sz:=sz) (fun u hu=>(hsz u hu).1),List.length_replicate]
  refine⟨hfl,.inr ⟨w.heap.size,cap,([]:List Value).toArray++Builtin.zeroCells zv.cells m++Builtin.zeroCells zv.cells (cap-m),rfl,Nat.zero_le _,(by rw[←hob];exact heap_alloc_new w.drew _),hge,hcm,?_,?_⟩⟩
  ·simp only[Array.size_append,List.size_toArray,size_zeroCells,zl,List.length_nil,Nat.zero_add,←Nat.add_mul];congr 1;omega
  ·rw[Array.toList_append,Array.toList_append,List.toList_toArray,List.nil_append,Y5 zl];exact List.take_left' hfl
 refine B8 (w':=w.drew.alloc ob) (v:=.slice (some ⟨w.heap.size,0,none⟩) m cap) (Cs hx.fr hg) ?_ (next _ _ _ ⟨hfr.put hp (by simp only[VR];exact⟨Phi.extS_same _ _ _,_,_,_,rfl⟩),?_,hx.dom.extS,hx.old,hx.new,fun b o q=>hle.m _ _ (hx.base b o q)⟩)
 ·simp only[execOp,resolve,invoke,builtin,Sem.run_bind,Sem.run_pure,Result.andThen_ok,List.map_toArray,List.map_cons,List.map_nil,v1,v2,hrun]
 have h1:=hx.rel.go (w':=w.drew.alloc ob) hle ⟨rfl,rfl,rfl,by simp,fun k hk=>heap_alloc_old w.drew _ hk⟩ (fun c o' q=>(heap_alloc_old w.drew ob (Dl (hx.rel.fro c o' q))).trans (hx.rel.fro c o' q)) (fun c o' q => .inl q);refine h1.add ⟨_,_,Phi.extS_same _ _ _,hown,hzr,hsz⟩ fun k hk=>?_;simp only[img,Phi.extS_same,Value.ownBlock,Option.bind_some,Option.some.injEq] at hk;subst hk;refine⟨hx.rel.below.fresh,by simp,?_,fun c o' hc q i=>?_⟩
 ·show φ.f w.heap.size=none
  cases hh:φ.f w.heap.size with
  |none=>rfl
  |some u=>have:=Dl (hx.rel.fro _ _ hh);omega
 ·rw[(SameO.of_le hle (hx.rel.obj c o' q)).img] at i;have:=(hx.rel.gf c o' _ q i).2.1;omega
theorem Q8x {rest:List Oper} {t:TypeId} {X H:Operand} {dst:Option Tmp} {ty:TypeId} {ps:String} {af:Array Edge} {g:Option (Nat × Bool)} {b e sz:Nat} {es:List AV} {s':Fr}
  (hg:Cp ops x.s g=true) (hX:evA x.s X=some (.own b)) (hH:evA x.s H=some (.int .i64 0)) (hb:A3 b x.h=some (.grow es e sz)) (he:Fj P t=some e) (hs:tsz P e=some sz)
  (hp:B3 n dst (.own b) (Ih (H5 b) x.s)=some s') (next:SO P n ops rest B F K ⟨s',B1 b (.grow [] e sz) (E0 b x.h),x.nx⟩):SO P n ops (⟨dst,.slice t X none (some H) none,ty,ps,af,g⟩::rest) B F K x:=by
 intro φ σ w hx;have v1:=hx.fr.ev _ _ hX;have v2:=hx.fr.ev _ _ hH;simp only[VR] at v1 v2;obtain⟨v,vs,a1,a2,a3,a4⟩:=hx.rel.obj b _ hb;rw[v1.1] at a1;have a1:=Option.some.inj a1;rcases a2.2 with⟨hv,hn⟩|⟨gb,cap,cur,hv,g1,g2,g3,g4,g5,g6⟩
 ·have hv':=hv;rw[←a1] at hv;have hbd:=H6 (P:=P) (isS:=true) (len:=0) (cap:=0) (i:=0) (j:=0) (m:=0) (lo:=none) (hi:=some (ev n σ H)) (mx:=none) (.inl ⟨rfl,rfl⟩) (.inr ⟨.i64,by rw[v2];rfl⟩) (.inl ⟨rfl,rfl⟩) (Nat.le_refl _) (Nat.le_refl _) (Nat.le_refl _) w
  have t:Turn φ φ b:=⟨fun _=>rfl,fun _ _=>rfl,fun _ _ e=>e⟩
  refine B8 (w':=w) (Cs hx.fr hg) (v:=.slice none 0 0) ?_ (next φ _ w ⟨(P7 t hx.fr).put hp ?_,?_,hx.dom,hx.old,hx.new,hx.base⟩)
  ·simp only[execOp,Instr.sliceAt,Instr.slice,Sem.run_bind,Sem.run_pure,run_underlying (Ef he),Result.andThen_ok,hv,hbd,C4 hs,Option.map_some,Option.map_none]<;>(try split)<;>rfl
  ·simp only[VR];exact⟨by rw[v1.1,hv],none,0,0,rfl⟩
  ·refine hx.rel.turnO hb t rfl hx.rel.below (Nat.le_refl _) (fun _ _ _=>rfl) ⟨.slice none 0 0,[],by rw[v1.1,hv],World.ownsRow_nil w 0 e sz,.nil,fun u hu=>by cases hu⟩ (fun k hk=>?_);simp only[img,v1.1,hv,Option.bind_some,Value.ownBlock] at hk;cases hk
 ·have hv':=hv;rw[←a1] at hv;have hbd:=H6 (P:=P) (isS:=true) (len:=es.length) (cap:=cap) (i:=0) (j:=0) (m:=cap) (lo:=none) (hi:=some (ev n σ H)) (mx:=none) (.inl ⟨rfl,rfl⟩) (.inr ⟨.i64,by rw[v2];rfl⟩) (.inl ⟨rfl,rfl⟩) (Nat.le_refl _) (Nat.zero_le _) (Nat.le_refl _) w;have hsn:φ.s b=some (ev n σ X):=v1.1;have t:Turn φ (φ.setS b (.slice (some ⟨gb,0,none⟩) 0 cap)) b:=Nu φ b _;refine B8 (w':=w) (Cs hx.fr hg) (v:=.slice (some ⟨gb,0,none⟩) 0 cap) ?_ (next (φ.setS b (.slice (some ⟨gb,0,none⟩) 0 cap)) _ w ⟨(P7 t hx.fr).put hp ?_,?_,fun c hc=>?_,hx.old,hx.new,hx.base⟩)
  ·simp only[execOp,Instr.sliceAt,Instr.slice,Sem.run_bind,Sem.run_pure,run_underlying (Ef he),Result.andThen_ok,hv,hbd,C4 hs,Option.map_some,Option.map_none]<;>(try split)<;>simp_all [Addr.add]
  ·simp only[VR];exact⟨Jg _ _ _,_,_,_,rfl⟩
  ·refine hx.rel.turnO hb t rfl hx.rel.below (Nat.le_refl _) (fun _ _ _=>rfl) ⟨.slice (some ⟨gb,0,none⟩) 0 cap,[],Jg _ _ _,⟨by simp,.inr ⟨gb,cap,cur,rfl,g1,g2,Nat.zero_le _,g4,g5,by simp⟩⟩,.nil,fun u hu=>by cases hu⟩ (fun k hk=>?_);simp only[img,Jg,Option.bind_some,Value.ownBlock,Option.some.injEq] at hk;subst hk
   have hi:img φ b (.grow es e sz) gb:=by simp only[img,hsn,hv,Option.bind_some];rfl
   have:=hx.rel.gf b _ gb hb hi;exact⟨this.1,this.2.1,this.2.2,fun c o1 hc e1 i1=>hc (hx.rel.sep c b o1 _ gb e1 hb i1 hi)⟩
  ·refine⟨(hx.dom c hc).1,?_⟩;show(if c=b then _ else _)=_;rw[if_neg (by rintro rfl;rw[(hx.dom _ hc).2] at hsn;cases hsn)];exact(hx.dom c hc).2
end
end Sv
section
open Go Go.RowKit
def DepT.name:DepT→List UInt8 | .mk _ nm _ _ _=>nm
def DepT.op:DepT→Int | .mk _ _ op _ _=>op
def DepT.evr:DepT→List UInt8 | .mk _ _ _ ev _=>ev
def DepT.args:DepT→List DepT | .mk _ _ _ _ a=>a
namespace Sv
mutual
noncomputable def Xv:DepT→AV
 |.mk k nm op ev args => .agg [.int .i64 k,.str nm,.int .i64 op,.str ev,.row 5 args.length (depAt args)]
noncomputable def depAt:List DepT→Nat→AV
 |[],_=>Bl
 |d::_,0=>Xv d
 |_::r,i+1=>depAt r i
end
noncomputable def Aw (d:DepT):AV:=.agg [.int .i64 d.kind,.str d.name,.int .i64 d.op,.str d.evr,.row 5 d.args.length (depAt d.args)]
theorem Y1z (d:DepT):Xv d=Aw d:=by cases d;unfold Xv;rfl
theorem Xw:∀{l:List DepT} {i:Nat},i < l.length→depAt l i=Aw (nth l i)
 |[],_,h=>by simp at h
 |d::r,0,_=>by unfold depAt;exact Y1z d
 |d::r,i+1,h=>by
  unfold depAt;exact Xw (l:=r) (by simpa using h)
noncomputable abbrev D0 (l:List DepT):AV:=Ak 5 Aw l
theorem Kp (l:List DepT):Imp (.row 5 l.length (depAt l)) (D0 l):=Imp.row fun i hi=>Imp.of_eq (Xw hi)
theorem Ko (l:List DepT):Imp (D0 l) (.row 5 l.length (depAt l)):=Imp.row fun i hi=>Imp.of_eq (Xw hi).symm
theorem VRl.of_imp {a b:AV} {l:List AV} (h:Imp a b):∀{p:List AV} {φ:Phi} {vs:List Value},VRl φ (p++a::l) vs→VRl φ (p++b::l) vs
 |[],φ,vs,k=>by
  obtain⟨v,vs',rfl,h1,h2⟩:=VRl.cons_inv (a:=a) (l:=l) k;exact VRl.cons (h φ v h1) h2
 |x::p,φ,vs,k=>by
  obtain⟨v,vs',rfl,h1,h2⟩:=VRl.cons_inv (a:=x) (l:=p++a::l) k;exact VRl.cons h1 (VRl.of_imp h h2)
theorem Imp.agg {a b:AV} {p l:List AV} (h:Imp a b):Imp (.agg (p++a::l)) (.agg (p++b::l)):=by
 intro φ v k;simp only[VR] at k ⊢;obtain⟨vs,h1,h2⟩:=k;exact⟨vs,VRl.of_imp h h1,h2⟩
theorem Y1y (d:DepT):Imp (Aw d) (.agg [.int .i64 d.kind,.str d.name,.int .i64 d.op,.str d.evr,D0 d.args]):=Imp.agg (p:=[.int .i64 d.kind,.str d.name,.int .i64 d.op,.str d.evr]) (Kp d.args)
theorem Y1x (d:DepT):Imp (.agg [.int .i64 d.kind,.str d.name,.int .i64 d.op,.str d.evr,D0 d.args]) (Aw d):=Imp.agg (p:=[.int .i64 d.kind,.str d.name,.int .i64 d.op,.str d.evr]) (Ko d.args)
theorem L7 {d:DepT} {i:Nat} (h:i < d.args.length):(nth d.args i).size < d.size:=by
 cases d with
 |mk k nm op ev args =>
  have:=Jz (l:=args) (i:=i) h;show(nth args i).size < (DepT.mk k nm op ev args).size;simp only[DepT.size];omega
theorem Q1 {C:DepT→Prop} (h:∀d,(∀i,i < d.args.length→C (nth d.args i))→C d) (d:DepT):C d:=by
 have key:∀n d,d.size≤n→C d:=by
  intro n
  induction n with
  |zero=>intro d hd;cases d;unfold DepT.size at hd;omega
  |succ n ih=>intro d hd;exact h d fun i hi=>ih _ (by have:=L7 hi;omega)
 exact key d.size d (Nat.le_refl _)
theorem X2e {F:Nat→Option Obj} {w:World} {sz n:Nat} {u:Nat→Value} {v:Value} (hF:Fro F w) (h:RowAt F sz n u v) (hs:∀i,i < n→(u i).cells.size=sz):RowIs w v n sz ((List.range n).map fun i=>(u i).cells.toList).flatten:=by
 have hf:=V0 (f:=fun i=>(u i).cells.toList) n (fun i hi=>by rw[Array.length_toList];exact hs i hi);rw[List.flatMap_def] at hf;refine⟨hf.1,?_⟩;rcases h with⟨rfl,rfl|⟨a,c,rfl⟩⟩|⟨b,o,c,rfl,_,hl⟩
 ·exact .inl ⟨rfl,_,_,rfl⟩
 ·exact .inl ⟨rfl,_,_,rfl⟩
 ·refine .inr ⟨b,o,c,rfl,fun j x hj=>?_⟩;obtain⟨i,k,hi,rfl,hk⟩:=hf.2 j x hj;rw[←Nat.add_assoc];exact Ki hF (hl i hi).2 hk
theorem X2d {F:Nat→Option Obj} {sz n:Nat} {u:Nat→Value} {v:Value} (h:RowAt F sz n u v):∀i,i < n→(u i).cells.size=sz:=by
 rcases h with⟨rfl,_⟩|⟨b,o,c,rfl,_,hl⟩
 ·intro i hi;omega
 ·exact fun i hi=>(hl i hi).1
theorem Q7s {w:World}:∀{l:List DepT} {f:Nat→List Value},(∀i,i < l.length→DepC w (nth l i) (f i))→ArgsC w l ((List.range l.length).map f)
 |[],f,_=>by unfold ArgsC;rfl
 |d::r,f,h=>by
  unfold ArgsC;refine⟨f 0,(List.range r.length).map fun i=>f (i+1),?_,h 0 (by simp),Q7s fun i hi=>h (i+1) (by simpa using hi)⟩;rw[List.length_cons,List.range_succ_eq_map,List.map_cons,List.map_map];rfl
theorem Y12 {F:Nat→Option Obj} {w:World} (hF:Fro F w) (d:DepT):∀v,VR (ofF F) (Aw d) v→∃cs,v = .agg cs.toArray∧DepC w d cs:=by
 refine Q1 (C:=fun d=>∀v,VR (ofF F) (Aw d) v→∃cs,v = .agg cs.toArray∧DepC w d cs) (fun d ih=>?_) d;intro v hv;have hv:=Y1y d _ _ hv;simp only[VR] at hv;obtain⟨vs,h1,rfl⟩:=hv;obtain⟨v0,r0,rfl,e0,h1⟩:=h1.cons_inv;obtain⟨v1,r1,rfl,e1,h1⟩:=h1.cons_inv;obtain⟨v2,r2,rfl,e2,h1⟩:=h1.cons_inv;obtain⟨v3,r3,rfl,e3,h1⟩:=h1.cons_inv;obtain⟨v4,r4,rfl,e4,h1⟩:=h1.cons_inv;rw[h1.nil_inv];simp only[VR] at e0 e1 e2 e3;subst e0 e1 e2 e3;simp only[D0,Ak,VR] at e4;obtain⟨u,hu,hr⟩:=e4;have hsz:=X2d hr;refine⟨_,rfl,?_⟩
 have hd:d = .mk d.kind d.name d.op d.evr d.args:=by cases d;rfl
 rw[hd];unfold DepC;refine⟨v4,(List.range d.args.length).map fun i=>(u i).cells.toList,rfl,X2e hF hr hsz,Q7s fun i hi=>?_⟩;obtain⟨cs,q1,q2⟩:=ih i hi (u i) (hu i hi);rw[q1];simpa [Value.cells] using q2
end Sv
end
namespace Sv
section
attribute [local irreducible] SW SO Bk
theorem Ww (ls:List (List UInt8)) (s:List UInt8) (hl:ls.length≤4611686018427387904) :
  FnV prog 145 [(Dc ls),(.str s)] (.int .i64 (Bs ls s 0)):=by
 refine Ax [.tmp 4] func145 ntmps145 fun B F hF=>?_;refine Aa [] [0,1] ?_;refine Ab (Aa [] [0,1,7,8] ?_);refine Au (B4 (fun g y=>∃(i:Nat),i≤ls.length∧Bs ls s 0=Bs (ls.drop i) s i∧y=⟨[(0,(Dc ls)),(1,(.str s)),(7,(.int .i64 ((ls.length:Int)))),(8,(.int .i64 ((i:Int))))],[],0⟩∧g=ls.length-i) [0,1,7,8] 0 _ (by omega) ⟨0,(by omega),(by rfl),(by kernel_rfl),rfl⟩ ?_);rintro g1 y1 ⟨i,f1_1,f1_2,rfl,rfl⟩;refine Aa [] [0,1,7,8,9] (Ab ?_);refine A4 (p:=(i:Int) < (ls.length:Int)) (fun c1=>?_) fun c1=>?_
 ·refine Ae ?_;refine Ab (Au ?_);refine Aa [] [0,1,5,7,8] (Ac [] [0,1,5,7,8,16] [] hk0 v0 (cc 3 (p:=(0≤(i:Int)∧i < ls.length)) (by omega)<|c0) ?_);refine A4 (p:=s=nth ls i) (fun c2=>?_) fun c2=>?_
  ·refine Aa [] [4] ?_;refine Ad (RK wR [(.int .i64 ((i:Int)))] ?_);exact Same.of_eq (by rw[f1_2,Y9 s (by omega),if_pos c2];rfl)
  ·refine Ae ?_;refine Aj (An 0 [] [0,1,7,8] [] hk0 v0 (cc 0 (p:=(-9223372036854775808≤(i:Int)+1∧(i:Int)+1≤9223372036854775807)) (by omega)<|c0) ?_);refine⟨by kernel_rfl,_,?_,i+1,?_,?_,(by kernel_rfl),rfl⟩
   ·omega
   ·omega
   ·rw[f1_2,Y9 s (by omega),if_neg c2]
 ·refine Br (Aa [] [4] ?_);refine Ad (RK wR [(.int .i64 (-1))] ?_);exact Same.of_eq (by rw[f1_2,List.drop_of_length_le (by omega)];rfl)
theorem Q6s (ls:List (List UInt8)) (s:List UInt8) (hl:ls.length≤4611686018427387904) :
  FnV prog 81 [(Dc ls),(.str s)] (.bool (decide (0≤Bs ls s 0))):=by
 refine Ax [.tmp 4] func81 ntmps81 fun B F hF=>?_;refine Aa [] [0,1] (Ac [] [4] [] (hk 2 T6 (Ww ls s hl)<|hk0) v0 c0 ?_);refine Ad (RK wR [(.bool (decide (0≤(Bs ls s 0))))] ?_);exact Same.of_eq (by first|rfl|(simp only[Ag];simp_all))
theorem Z5  :
  FnV prog 82 [] (Dc signsL):=by
 refine Ax [.tmp 0] func82 ntmps82 fun B F hF=>?_;refine Aa [] [] (Aa [] [0] ?_);refine Ad (RK wR [(.row 1 8 (fun ix=>(Ge 1 8 [(.str []),(.str ([60])),(.str ([61])),(.str ([60,61])),(.str ([62])),(.str ([60,62])),(.str ([62,61])),(.str ([60,61,62]))]).getD ix Bl))] ?_);exact(Imp.list (f:=AV.str) (l:=signsL) rfl).same
theorem Zf  :
  FnV prog 83 [] (Dc Bv):=by
 refine Ax [.tmp 0] func83 ntmps83 fun B F hF=>?_;refine Aa [] [] (Aa [] [0] ?_);refine Ad (RK wR [(.row 1 7 (fun ix=>(Ge 1 7 [(.str []),(.str []),(.str ([97,110,100])),(.str ([111,114])),(.str ([105,102])),(.str ([119,105,116,104])),(.str ([119,105,116,104,111,117,116]))]).getD ix Bl))] ?_);exact(Imp.list (f:=AV.str) (l:=Bv) rfl).same
theorem Pd (l:List UInt8) (hl:l.length≤9223372036854775807) :
  FnV prog 51 [(.str l)] (.bool (Bh l)):=by
 have hp:l=[]∨0 < l.length:=by cases l<;>simp
 refine Ax [.tmp 2] func51 ntmps51 fun B F hF=>?_;refine Aa [] [0] (Ab ?_)
 obtain⟨b1,hb1⟩:∃b,b=(decide (l=[])):=⟨_,rfl⟩
 obtain⟨b2,hb2⟩:∃b,b=(b1||(decide (60 < (l.length:Int)))):=⟨_,rfl⟩
 obtain⟨b3,hb3⟩:∃b,b=(b2||(decide (((Af l 0).toNat:Int)=40))):=⟨_,rfl⟩
 obtain⟨b4,hb4⟩:∃b,b=(b3||(decide (((Af l 0).toNat:Int)=41))):=⟨_,rfl⟩
 obtain⟨b5,hb5⟩:∃b,b=(b4||(decide (l=[101,108,115,101]))):=⟨_,rfl⟩
 obtain⟨b6,hb6⟩:∃b,b=(b5||(decide (0≤Bs signsL l 0))):=⟨_,rfl⟩
 have qh1:(((!b1)=true→(!b1)=true))∧(((!b1)=true→(!b1)=true))∧((b1=false→(!b1)=true))∧(((!b2)=true→((!b2)=true)∧(0≤(0:Int)∧0 < l.length)))∧(((!b2)=true→(!b2)=true))∧((b2=false→(!b2)=true))∧(((!b3)=true→((!b3)=true)∧(0≤(0:Int)∧0 < l.length)))∧(((!b3)=true→(!b3)=true))∧((b3=false→(!b3)=true))∧(((!b4)=true→(!b4)=true))∧((b4=false→(!b4)=true)):=by
  rcases hp with hp|hp<;>simp_all
 refine Ac [9,10,11,14,15,16,19,20,21,24,25,29,34] [0,36] [] (hkg 22 (!b5) Xf (fun cg=>Z5)<|hkg 24 (!b5) Q46 (fun cg=>(Q6s signsL l (by decide)))<|hkg 27 (!b6) Xe (fun cg=>Zf)<|hkg 29 (!b6) Q46 (fun cg=>(Q6s Bv l (by decide)))<|hk0) (vk 3 8 (a:=.bool (decide (l=[]))) (b:=.bool b1) (Imp.of_eq (by rw[hb1]))<|vk 8 13 (a:=.bool (b1||(decide (60 < (l.length:Int))))) (b:=.bool b2) (Imp.of_eq (by rw[hb2]))<|vk 12 17 (a:=.bool (b2||(decide (((Af l 0).toNat:Int)=40)))) (b:=.bool b3) (Imp.of_eq (by rw[hb3]))<|vk 17 22 (a:=.bool (b3||(decide (((Af l 0).toNat:Int)=41)))) (b:=.bool b4) (Imp.of_eq (by rw[hb4]))<|vk 22 27 (a:=.bool (b4||(decide (l=[101,108,115,101])))) (b:=.bool b5) (Imp.of_eq (by rw[hb5]))<|vk 27 32 (a:=.bool (b5||(decide (0≤Bs signsL l 0)))) (b:=.bool b6) (Imp.of_eq (by rw[hb6]))<|v0) (cc 4 (p:=((!b1)=true→(!b1)=true)) qh1.1<|cc 5 (p:=((!b1)=true→(!b1)=true)) qh1.2.1<|cc 6 (p:=(b1=false→(!b1)=true)) qh1.2.2.1<|cc 9 (p:=((!b2)=true→((!b2)=true)∧(0≤(0:Int)∧0 < l.length))) qh1.2.2.2.1<|cc 10 (p:=((!b2)=true→(!b2)=true)) qh1.2.2.2.2.1<|cc 11 (p:=(b2=false→(!b2)=true)) qh1.2.2.2.2.2.1<|cc 14 (p:=((!b3)=true→((!b3)=true)∧(0≤(0:Int)∧0 < l.length))) qh1.2.2.2.2.2.2.1<|cc 15 (p:=((!b3)=true→(!b3)=true)) qh1.2.2.2.2.2.2.2.1<|cc 16 (p:=(b3=false→(!b3)=true)) qh1.2.2.2.2.2.2.2.2.1<|cc 19 (p:=((!b4)=true→(!b4)=true)) qh1.2.2.2.2.2.2.2.2.2.1<|cc 20 (p:=(b4=false→(!b4)=true)) qh1.2.2.2.2.2.2.2.2.2.2<|cc 24 (p:=(!b5)=true→(!b5)=true∧(!b5)=true) (by simp)<|cc 25 (p:=(b5=false→(!b5)=true)) (by simp)<|cc 29 (p:=(!b6)=true→(!b6)=true∧(!b6)=true) (by simp)<|cc 30 (p:=(b6=false→(!b6)=true)) (by simp)<|c0) ?_
 refine A7 (q:=b6||(decide (0≤Bs Bv l 0))) (fun c1=>?_) fun c1=>?_
 ·subst hb6 hb5 hb4 hb3 hb2 hb1
  try simp only[Aq] at c1
  refine Aa [] [2] ?_;refine Ad (RK wR [(.bool false)] ?_)
  have h0:G6 l=true:=by
   unfold G6
   rcases c1 with (((((h|h)|h)|h)|h)|h)|h<;>first|(simp[h];done)|(have h':60 < l.length:=(by omega);simp[h'];done)|(have h':(Af l 0).toNat=40:=(by omega);simp[h'];done)|(have h':(Af l 0).toNat=41:=(by omega);simp[h'];done)
  exact Same.of_eq (by simp only[Ag];rw[Bh,h0];rfl)
 ·subst hb6 hb5 hb4 hb3 hb2 hb1
  try simp only[Aq] at c1
  have hnh:G6 l=false:=by
   unfold G6;simp only[Bool.or_eq_false_iff,decide_eq_false_iff_not];exact⟨c1.1.1.1.1.1.1,by omega,by omega,by omega,c1.1.1.2,c1.1.2,c1.2⟩
  refine Ae (Aa [] [0,3] ?_);refine Ab (Aa [] [0,3,38,39] ?_);refine Au (B4 (fun g y=>∃(k:Nat) (n:Int),k≤l.length∧Eb l 0=Eb (l.drop k) n∧(0≤n∧n≤k)∧l.length≤60∧G6 l=false∧y=⟨[(0,(.str l)),(3,(.int .i64 n)),(38,(.int .i64 ((l.length:Int)))),(39,(.int .i64 ((k:Int))))],[],0⟩∧g=l.length-k) [0,3,38,39] 0 _ (by omega) ⟨0,0,(by omega),(by rfl),(by omega),(by exact Wz hnh),(by exact hnh),(by kernel_rfl),rfl⟩ ?_);rintro g1 y1 ⟨k,n,f1_1,f1_2,f1_3,f1_4,f1_5,rfl,rfl⟩;refine Aa [] [0,3,38,39,40] (Ab ?_);refine A4 (p:=(k:Int) < (l.length:Int)) (fun c2=>?_) fun c2=>?_
  ·refine Ae (Ab ?_);refine Au (Aa [] [0,3,4,38,39] ?_);refine Ev (fun y=>¬((Af l k).toNat < 33∨126 < (Af l k).toNat)∧y=⟨[(0,(.str l)),(3,(.int .i64 ((if (Af l k).toNat=40 then n+1 else if (Af l k).toNat=41 then n-1 else n)))),(38,(.int .i64 ((l.length:Int)))),(39,(.int .i64 ((k:Int))))],[],0⟩) [0,3,38,39] 0 (by omega) ?_ ?_
   ·refine Ac [] [0,3,5,38,39] [] hk0 v0 (cc 2 (p:=(0≤(k:Int)∧k < l.length)) (by omega)<|c0) ?_;refine Au ?_
    obtain⟨b7,hb7⟩:∃b,b=(decide (((Af l k).toNat:Int) < 33)):=⟨_,rfl⟩
    obtain⟨b8,hb8⟩:∃b,b=(b7||(decide (126 < ((Af l k).toNat:Int)))):=⟨_,rfl⟩
    refine Ac (CS:=[(4,((!b7)=true→(!b7)=true)),(5,(b7=false→(!b7)=true))]) [49,50] [0,3,5,38,39,45] [] hk0 (vk 3 48 (a:=.bool (decide (((Af l k).toNat:Int) < 33))) (b:=.bool b7) (Imp.of_eq (by rw[hb7]))<|vk 6 51 (a:=.bool (b7||(decide (126 < ((Af l k).toNat:Int))))) (b:=.bool b8) (Imp.of_eq (by rw[hb8]))<|v0) (by refine cc _ ?_<|cc _ ?_ c0<;>simp) ?_;refine A7 (q:=b8) (fun c3=>?_) fun c3=>?_
    ·subst hb8 hb7
     try simp only[Aq] at c3
     have hub:(Af l k).toNat < 33∨126 < (Af l k).toNat:=by omega
     refine Aa [] [2] ?_;refine Ad (RK wR [(.bool false)] ?_);exact Same.of_eq (by simp only[Ag];rw[Bh,f1_2,Hv (by omega),Eb,if_pos hub];simp)
    ·subst hb8 hb7
     try simp only[Aq] at c3
     have hub:¬((Af l k).toNat < 33∨126 < (Af l k).toNat):=by omega
     refine Aa [] [0,3,5,38,39,52] ?_;refine A4 (p:=((Af l k).toNat:Int)=40) (fun c4=>?_) fun c4=>?_
     ·refine Aj (An 0 [] [0,3,38,39] [] hk0 v0 (cc 1 (p:=(-9223372036854775808≤n+1∧n+1≤9223372036854775807)) (by omega)<|c0) ?_);refine⟨by kernel_rfl,?_,(by rw[show(if (Af l k).toNat=40 then n+1 else if (Af l k).toNat=41 then n-1 else n)=n+1 from by(repeat' split)<;>omega]<;>kernel_rfl)⟩;exact hub
     ·refine Aa [] [0,3,38,39,57] ?_;refine A4 (p:=((Af l k).toNat:Int)=41) (fun c5=>?_) fun c5=>?_
      ·refine Aj (An 0 [] [0,3,38,39] [] hk0 v0 (cc 1 (p:=(-9223372036854775808≤n-1∧n-1≤9223372036854775807)) (by omega)<|c0) ?_);refine⟨by kernel_rfl,?_,(by rw[show(if (Af l k).toNat=40 then n+1 else if (Af l k).toNat=41 then n-1 else n)=n-1 from by(repeat' split)<;>omega]<;>kernel_rfl)⟩;exact hub
      ·refine Ae ?_;refine⟨by kernel_rfl,?_,(by rw[show(if (Af l k).toNat=40 then n+1 else if (Af l k).toNat=41 then n-1 else n)=n from by(repeat' split)<;>omega]<;>kernel_rfl)⟩;exact hub
   ·rintro y1 ⟨hub,rfl⟩;refine Aa [] [0,3,38,39,63] ?_;refine A4 (p:=(if (Af l k).toNat=40 then n+1 else if (Af l k).toNat=41 then n-1 else n) < 0) (fun c6=>?_) fun c6=>?_
    ·refine Aa [] [2] ?_;refine Ad (RK wR [(.bool false)] ?_);exact Same.of_eq (by simp only[Ag];rw[Bh,f1_2,Sr (by omega) hub];simp only[if_pos c6];simp)
    ·refine Ae ?_;refine Aj (An 0 [] [0,3,38,39] [] hk0 v0 (cc 0 (p:=(-9223372036854775808≤(k:Int)+1∧(k:Int)+1≤9223372036854775807)) (by omega)<|c0) ?_);refine⟨by kernel_rfl,_,?_,k+1,(if (Af l k).toNat=40 then n+1 else if (Af l k).toNat=41 then n-1 else n),?_,?_,?_,?_,?_,(by kernel_rfl),rfl⟩
     ·omega
     ·omega
     ·rw[f1_2,Sr (by omega) hub];simp only[if_neg c6]
     ·constructor<;>((repeat' split)<;>omega)
     ·exact f1_4
     ·exact f1_5
  ·refine Br (Aa [] [2] ?_);refine Ad (RK wR [(.bool (decide (n=0)))] ?_);exact Same.of_eq (by simp only[Ag];rw[Bh,f1_5,f1_2,List.drop_of_length_le (by omega),Eb];simp)
theorem Q9r (s:List UInt8) :
  FnV prog 98 [(.str s)] (.bool (Nm s)):=by
 refine Ax [.tmp 2] func98 ntmps98 fun B F hF=>?_;refine Aa [] [0] ?_
 obtain⟨b1,hb1⟩:∃b,b=(decide (s=[97,110,100])):=⟨_,rfl⟩
 obtain⟨b2,hb2⟩:∃b,b=(b1||(decide (s=[111,114]))):=⟨_,rfl⟩
 obtain⟨b3,hb3⟩:∃b,b=(b2||(decide (s=[105,102]))):=⟨_,rfl⟩
 obtain⟨b4,hb4⟩:∃b,b=(b3||(decide (s=[101,108,115,101]))):=⟨_,rfl⟩
 obtain⟨b5,hb5⟩:∃b,b=(b4||(decide (s=[119,105,116,104]))):=⟨_,rfl⟩
 obtain⟨b6,hb6⟩:∃b,b=(b5||(decide (s=[119,105,116,104,111,117,116]))):=⟨_,rfl⟩
 refine Ac (CS:=[(4,((!b1)=true→(!b1)=true)),(5,(b1=false→(!b1)=true)),(8,((!b2)=true→(!b2)=true)),(9,(b2=false→(!b2)=true)),(12,((!b3)=true→(!b3)=true)),(13,(b3=false→(!b3)=true)),(16,((!b4)=true→(!b4)=true)),(17,(b4=false→(!b4)=true)),(20,((!b5)=true→(!b5)=true)),(21,(b5=false→(!b5)=true))]) [6,7,10,11,14,15,18,19,22,23] [2] [] hk0 (vk 3 5 (a:=.bool (decide (s=[97,110,100]))) (b:=.bool b1) (Imp.of_eq (by rw[hb1]))<|vk 7 9 (a:=.bool (b1||(decide (s=[111,114])))) (b:=.bool b2) (Imp.of_eq (by rw[hb2]))<|vk 11 13 (a:=.bool (b2||(decide (s=[105,102])))) (b:=.bool b3) (Imp.of_eq (by rw[hb3]))<|vk 15 17 (a:=.bool (b3||(decide (s=[101,108,115,101])))) (b:=.bool b4) (Imp.of_eq (by rw[hb4]))<|vk 19 21 (a:=.bool (b4||(decide (s=[119,105,116,104])))) (b:=.bool b5) (Imp.of_eq (by rw[hb5]))<|vk 22 24 (a:=.bool (b5||(decide (s=[119,105,116,104,111,117,116])))) (b:=.bool b6) (Imp.of_eq (by rw[hb6]))<|v0) (by refine cc _ ?_<|cc _ ?_<|cc _ ?_<|cc _ ?_<|cc _ ?_<|cc _ ?_<|cc _ ?_<|cc _ ?_<|cc _ ?_<|cc _ ?_ c0<;>simp) ?_;refine Ad (RK wR [(.bool b6)] ?_);subst hb6 hb5 hb4 hb3 hb2 hb1;exact Same.of_eq (by simp only[Ag];unfold Nm;simp only[Bool.or_assoc])
theorem X1b (s:List UInt8) :
  FnV prog 99 [(.str s)] (.int .i64 (Ff s)):=by
 refine Ax [.tmp 2] func99 ntmps99 fun B F hF=>?_;refine Aa [] [0] ?_;refine Ab (Aa [] [3] ?_);refine Au (Aa [] [3,4] ?_);refine A4 (p:=s=[60]) (fun c1=>?_) fun c1=>?_
 ·refine Aa [] [2] ?_;refine Ad (RK wR [(.int .i64 1)] ?_);exact Same.of_eq (by simp only[Ag];congr 1;simp[Ff, *])
 ·refine Aa [] [3,6] ?_;refine A4 (p:=s=[61]) (fun c2=>?_) fun c2=>?_
  ·refine Aa [] [2] ?_;refine Ad (RK wR [(.int .i64 2)] ?_);exact Same.of_eq (by simp only[Ag];congr 1;simp[Ff, *])
  ·refine Aa [] [3,8] ?_;refine A4 (p:=s=[60,61]) (fun c3=>?_) fun c3=>?_
   ·refine Aa [] [2] ?_;refine Ad (RK wR [(.int .i64 3)] ?_);exact Same.of_eq (by simp only[Ag];congr 1;simp[Ff, *])
   ·refine Aa [] [3,10] ?_;refine A4 (p:=s=[62]) (fun c4=>?_) fun c4=>?_
    ·refine Aa [] [2] ?_;refine Ad (RK wR [(.int .i64 4)] ?_);exact Same.of_eq (by simp only[Ag];congr 1;simp[Ff, *])
    ·refine Aa [] [3,12] ?_;refine A4 (p:=s=[60,62]) (fun c5=>?_) fun c5=>?_
     ·refine Aa [] [2] ?_;refine Ad (RK wR [(.int .i64 5)] ?_);exact Same.of_eq (by simp only[Ag];congr 1;simp[Ff, *])
     ·refine Aa [] [3,14] ?_;refine A4 (p:=s=[62,61]) (fun c6=>?_) fun c6=>?_
      ·refine Aa [] [2] ?_;refine Ad (RK wR [(.int .i64 6)] ?_);exact Same.of_eq (by simp only[Ag];congr 1;simp[Ff, *])
      ·refine Aa [] [16] ?_;refine A4 (p:=s=[60,61,62]) (fun c7=>?_) fun c7=>?_
       ·refine Aa [] [2] ?_;refine Ad (RK wR [(.int .i64 7)] ?_);exact Same.of_eq (by simp only[Ag];congr 1;simp[Ff, *])
       ·refine Ae (Aa [] [2] ?_);refine Ad (RK wR [(.int .i64 0)] ?_);exact Same.of_eq (by simp only[Ag];congr 1;simp[Ff, *])
theorem Sj (l:List UInt8) (hl:l.length≤9223372036854775807) :
  FnV prog 57 [(.str l)] (.bool (Bh l)):=by
 have hp:l.length < 1∨0 < l.length:=by omega
 refine Ax [.tmp 2] func57 ntmps57 fun B F hF=>?_;refine Aa [] [0] (Ac [] [0,3] [] (hk 1 X8x (Q9r l)<|hk0) v0 c0 ?_);refine Ab ?_
 obtain⟨b1,hb1⟩:∃b,b=(decide ((l.length:Int) < 1)):=⟨_,rfl⟩
 obtain⟨b2,hb2⟩:∃b,b=(b1||(decide (60 < (l.length:Int)))):=⟨_,rfl⟩
 obtain⟨b3,hb3⟩:∃b,b=(b2||(decide (((Af l 0).toNat:Int)=40))):=⟨_,rfl⟩
 obtain⟨b4,hb4⟩:∃b,b=(b3||(decide (((Af l 0).toNat:Int)=41))):=⟨_,rfl⟩
 obtain⟨b5,hb5⟩:∃b,b=(b4||(Nm l)):=⟨_,rfl⟩
 have qh1:(((!b1)=true→(!b1)=true))∧(((!b1)=true→(!b1)=true))∧((b1=false→(!b1)=true))∧(((!b2)=true→((!b2)=true)∧(0≤(0:Int)∧0 < l.length)))∧(((!b2)=true→(!b2)=true))∧((b2=false→(!b2)=true))∧(((!b3)=true→((!b3)=true)∧(0≤(0:Int)∧0 < l.length)))∧(((!b3)=true→(!b3)=true))∧((b3=false→(!b3)=true))∧((b4=false→(!b4)=true)):=by
  rcases hp with hp|hp<;>simp_all
 refine Ac [12,13,14,17,18,19,22,23,24,27,30,32] [0,33] [] (hkg 23 (!b5) X8w (fun cg=>X1b l)<|hk0) (vk 4 11 (a:=.bool (decide ((l.length:Int) < 1))) (b:=.bool b1) (Imp.of_eq (by rw[hb1]))<|vk 9 16 (a:=.bool (b1||(decide (60 < (l.length:Int))))) (b:=.bool b2) (Imp.of_eq (by rw[hb2]))<|vk 13 20 (a:=.bool (b2||(decide (((Af l 0).toNat:Int)=40)))) (b:=.bool b3) (Imp.of_eq (by rw[hb3]))<|vk 18 25 (a:=.bool (b3||(decide (((Af l 0).toNat:Int)=41)))) (b:=.bool b4) (Imp.of_eq (by rw[hb4]))<|vk 22 29 (a:=.bool (b4||(Nm l))) (b:=.bool b5) (Imp.of_eq (by rw[hb5]))<|v0) (cc 5 (p:=((!b1)=true→(!b1)=true)) qh1.1<|cc 6 (p:=((!b1)=true→(!b1)=true)) qh1.2.1<|cc 7 (p:=(b1=false→(!b1)=true)) qh1.2.2.1<|cc 10 (p:=((!b2)=true→((!b2)=true)∧(0≤(0:Int)∧0 < l.length))) qh1.2.2.2.1<|cc 11 (p:=((!b2)=true→(!b2)=true)) qh1.2.2.2.2.1<|cc 12 (p:=(b2=false→(!b2)=true)) qh1.2.2.2.2.2.1<|cc 15 (p:=((!b3)=true→((!b3)=true)∧(0≤(0:Int)∧0 < l.length))) qh1.2.2.2.2.2.2.1<|cc 16 (p:=((!b3)=true→(!b3)=true)) qh1.2.2.2.2.2.2.2.1<|cc 17 (p:=(b3=false→(!b3)=true)) qh1.2.2.2.2.2.2.2.2.1<|cc 20 (p:=(b4=false→(!b4)=true)) qh1.2.2.2.2.2.2.2.2.2<|cc 23 (p:=(!b5)=true→(!b5)=true) (by simp)<|cc 24 (p:=((!b5)=true→(!b5)=true)) (by simp)<|cc 25 (p:=(b5=false→(!b5)=true)) (by simp)<|c0) ?_
 refine A7 (q:=b5||(!decide ((Ff l)=0))) (fun c1=>?_) fun c1=>?_
 ·subst hb5 hb4 hb3 hb2 hb1
  try simp only[Aq] at c1
  refine Aa [] [2] ?_;refine Ad (RK wR [(.bool false)] ?_)
  have h0:G6 l=true:=by
   rw[←Q0s];unfold Sk
   rcases c1 with ((((h|h)|h)|h)|h)|h<;>first|(simp[h];done)|(have h':l.length < 1:=(by omega);simp[h'];done)|(have h':60 < l.length:=(by omega);simp[h'];done)|(have h':(Af l 0).toNat=40:=(by omega);simp[h'];done)|(have h':(Af l 0).toNat=41:=(by omega);simp[h'];done)|(have h':¬Ff l=0:=(by omega);simp[h'];done)
  exact Same.of_eq (by simp only[Ag];rw[Bh,h0];rfl)
 ·subst hb5 hb4 hb3 hb2 hb1
  try simp only[Aq] at c1
  have hnh:G6 l=false:=by
   rw[←Q0s];unfold Sk;simp only[Bool.or_eq_false_iff,decide_eq_false_iff_not];exact⟨by omega,by omega,by omega,by omega,c1.1.2,by omega⟩
  refine Ae (Aa [] [0,4] ?_);refine Ab (Aa [] [0,4,5] ?_);refine Au (B4 (fun g y=>∃(k:Nat) (n:Int),k≤l.length∧Eb l 0=Eb (l.drop k) n∧(0≤n∧n≤k)∧l.length≤60∧G6 l=false∧y=⟨[(0,(.str l)),(4,(.int .i64 n)),(5,(.int .i64 ((k:Int))))],[],0⟩∧g=l.length-k) [0,4,5] 0 _ (by omega) ⟨0,0,(by omega),(by rfl),(by omega),(by exact Wz hnh),(by exact hnh),(by kernel_rfl),rfl⟩ ?_);rintro g1 y1 ⟨k,n,f1_1,f1_2,f1_3,f1_4,f1_5,rfl,rfl⟩;refine Ab (Aa [] [0,4,5,37] ?_);refine A4 (p:=(k:Int) < (l.length:Int)) (fun c2=>?_) fun c2=>?_
  ·refine Ae (Ab ?_);refine Au (Ab ?_)
   obtain⟨b6,hb6⟩:∃b,b=(decide (((Af l k).toNat:Int) < 33)):=⟨_,rfl⟩
   refine Ac (CS:=[(2,(0≤(k:Int)∧k < l.length)),(7,((!b6)=true→((!b6)=true∧(!b6)=true)∧(0≤(k:Int)∧k < l.length))),(8,((!b6)=true→(!b6)=true)),(9,(b6=false→(!b6)=true))]) [45,46,47,48] [0,4,5,49] [] hk0 (vk 5 44 (a:=.bool (decide (((Af l k).toNat:Int) < 33))) (b:=.bool b6) (Imp.of_eq (by rw[hb6]))<|v0) (by refine cc _ ?_<|cc _ ?_<|cc _ ?_<|cc _ ?_ c0<;>(intros;simp_all;done)) ?_;refine A7 (q:=b6||(decide (126 < ((Af l k).toNat:Int)))) (fun c3=>?_) fun c3=>?_
   ·subst hb6
    try simp only[Aq] at c3
    have hub:(Af l k).toNat < 33∨126 < (Af l k).toNat:=by omega
    refine Aa [] [2] ?_;refine Ad (RK wR [(.bool false)] ?_);exact Same.of_eq (by simp only[Ag];rw[Bh,f1_2,Hv (by omega),Eb,if_pos hub];simp)
   ·subst hb6
    try simp only[Aq] at c3
    have hub:¬((Af l k).toNat < 33∨126 < (Af l k).toNat):=by omega
    refine Ae ?_;refine Ev (fun y=>y=⟨[(0,(.str l)),(4,(.int .i64 ((if (Af l k).toNat=40 then n+1 else n)))),(5,(.int .i64 ((k:Int))))],[],0⟩) [0,4,5] 0 (by omega) ?_ ?_
    ·refine Ac [] [0,4,5,53] [] hk0 v0 (cc 2 (p:=(0≤(k:Int)∧k < l.length)) (by omega)<|c0) ?_;refine A4 (p:=((Af l k).toNat:Int)=40) (fun c4=>?_) fun c4=>?_
     ·refine Aj (An 0 [] [0,4,5] [] hk0 v0 (cc 1 (p:=(-9223372036854775808≤n+1∧n+1≤9223372036854775807)) (by omega)<|c0) ?_);refine⟨by kernel_rfl,(by rw[show(if (Af l k).toNat=40 then n+1 else n)=n+1 from if_pos (by omega)]<;>kernel_rfl)⟩
     ·refine Ae ?_;refine⟨by kernel_rfl,(by rw[show(if (Af l k).toNat=40 then n+1 else n)=n from if_neg (by omega)]<;>kernel_rfl)⟩
    ·rintro y1 rfl;refine Ev (fun y=>y=⟨[(0,(.str l)),(4,(.int .i64 ((if (Af l k).toNat=40 then n+1 else if (Af l k).toNat=41 then n-1 else n)))),(5,(.int .i64 ((k:Int))))],[],0⟩) [0,4,5] 0 (by omega) ?_ ?_
     ·refine Ac [] [0,4,5,59] [] hk0 v0 (cc 2 (p:=(0≤(k:Int)∧k < l.length)) (by omega)<|c0) ?_;refine A4 (p:=((Af l k).toNat:Int)=41) (fun c5=>?_) fun c5=>?_
      ·refine Aj (An 0 [] [0,4,5] [] hk0 v0 (cc 1 (p:=(-9223372036854775808≤(if (Af l k).toNat=40 then n+1 else n)-1∧(if (Af l k).toNat=40 then n+1 else n)-1≤9223372036854775807)) (by omega)<|c0) ?_);refine⟨by kernel_rfl,(by rw[show(if (Af l k).toNat=40 then n+1 else if (Af l k).toNat=41 then n-1 else n)=(if (Af l k).toNat=40 then n+1 else n)-1 from by(repeat' split)<;>omega]<;>kernel_rfl)⟩
      ·refine Ae ?_;refine⟨by kernel_rfl,(by rw[show(if (Af l k).toNat=40 then n+1 else if (Af l k).toNat=41 then n-1 else n)=(if (Af l k).toNat=40 then n+1 else n) from by(repeat' split)<;>omega]<;>kernel_rfl)⟩
     ·rintro y2 rfl;refine Aa [] [0,4,5,63] ?_;refine A4 (p:=(if (Af l k).toNat=40 then n+1 else if (Af l k).toNat=41 then n-1 else n) < 0) (fun c6=>?_) fun c6=>?_
      ·refine Aa [] [2] ?_;refine Ad (RK wR [(.bool false)] ?_);exact Same.of_eq (by simp only[Ag];rw[Bh,f1_2,Sr (by omega) hub];simp only[if_pos c6];simp)
      ·refine Ae ?_;refine Aj (An 0 [] [0,4,5] [] hk0 v0 (cc 1 (p:=(-9223372036854775808≤(k:Int)+1∧(k:Int)+1≤9223372036854775807)) (by omega)<|c0) ?_);refine⟨by kernel_rfl,_,?_,k+1,(if (Af l k).toNat=40 then n+1 else if (Af l k).toNat=41 then n-1 else n),?_,?_,?_,?_,?_,(by kernel_rfl),rfl⟩
       ·omega
       ·omega
       ·rw[f1_2,Sr (by omega) hub];simp only[if_neg c6]
       ·constructor<;>((repeat' split)<;>omega)
       ·exact f1_4
       ·exact f1_5
  ·refine Br (Aa [] [2] ?_);refine Ad (RK wR [(.bool (decide (n=0)))] ?_);exact Same.of_eq (by simp only[Ag];rw[Bh,f1_5,f1_2,List.drop_of_length_le (by omega),Eb];simp)
theorem Jt:Ai prog 148:=Am func148
theorem Ow:Ai prog 149:=Am func149
theorem I2:Ai prog 151:=Am func151
theorem Q5o:Ai prog 232:=Am func232
theorem T3:Ai prog 214:=Am func214
def Bc (c:UInt8):Bool:=decide (48≤c.toNat)&&decide (c.toNat≤57)
def Cf (c:UInt8):Bool:=(decide (97≤c.toNat)&&decide (c.toNat≤122))||(decide (65≤c.toNat)&&decide (c.toNat≤90))
def Ba (p:UInt8→Bool) (s:List UInt8):Nat:=(s.takeWhile p).length
theorem Kr (p:UInt8→Bool):∀s:List UInt8,Ba p s≤s.length
 |[]=>Nat.le_refl _
 |a::r=>by
  have:=Kr p r;unfold Ba at this ⊢;rw[List.takeWhile_cons];split<;>simp<;>omega
theorem Q6o {p:UInt8→Bool}:∀{s:List UInt8} {i:Nat},i < s.length→(∀j,j < i→p (Af s j)=true)→p (Af s i)=false→Ba p s=i
 |[],_,h,_,_=>by simp at h
 |a::r,0,_,_,h=>by
  have h:p a=false:=h;unfold Ba;rw[List.takeWhile_cons,h];rfl
 |a::r,i+1,hi,h,hp=>by
  have h0:p a=true:=h 0 (by omega);have:=Q6o (s:=r) (i:=i) (by simpa using hi) (fun j hj=>h (j+1) (by omega)) hp;unfold Ba at this ⊢;rw[List.takeWhile_cons,h0];simp[this]
theorem Q6p {p:UInt8→Bool}:∀{s:List UInt8},(∀j,j < s.length→p (Af s j)=true)→Ba p s=s.length
 |[],_=>rfl
 |a::r,h=>by
  have h0:p a=true:=h 0 (by simp);have:=Q6p (s:=r) (fun j hj=>h (j+1) (by simpa using hj));unfold Ba at this ⊢;rw[List.takeWhile_cons,h0];simp[this]
def H8 (a b:Bool) (g:Int):Int:=if (a&&!b)=true then g else if (b&&!a)=true then -g else 0
def D4 (s:List UInt8):Int:=if s=[]∨Bc (Af s 0)=true then 0 else if (Af s 0).toNat=126 then -1 else if Cf (Af s 0)=true then (Af s 0).toNat else 256+((Af s 0).toNat:Int)
theorem Kn (c:UInt8) :
  FnV prog 148 [(.int .u8 ((c.toNat:Int)))] (.bool (Bc c)):=by
 refine Ax [.tmp 2] func148 ntmps148 fun B F hF=>?_;refine Aa [] [0] ?_
 obtain⟨b1,hb1⟩:∃b,b=(decide (48≤(c.toNat:Int))):=⟨_,rfl⟩
 refine Ac (CS:=[(4,(b1=true→b1=true)),(5,(b1=true→b1=true))]) [6,7] [2] [] hk0 (vk 3 5 (a:=.bool (decide (48≤(c.toNat:Int)))) (b:=.bool b1) (Imp.of_eq (by rw[hb1]))<|v0) (by refine cc _ ?_<|cc _ ?_ c0<;>simp) ?_;refine Ad (RK wR [(.bool (b1&&(decide ((c.toNat:Int)≤57))))] ?_);subst hb1;refine Same.of_eq ?_;simp only[Ag];congr 1;unfold Bc;rw[Bool.eq_iff_iff];simp only[Bool.and_eq_true,Bool.or_eq_true,decide_eq_true_eq];omega
theorem Qc (c:UInt8) :
  FnV prog 149 [(.int .u8 ((c.toNat:Int)))] (.bool (Cf c)):=by
 refine Ax [.tmp 2] func149 ntmps149 fun B F hF=>?_;refine Aa [] [0] ?_
 obtain⟨b1,hb1⟩:∃b,b=(decide (97≤(c.toNat:Int))):=⟨_,rfl⟩
 obtain⟨b2,hb2⟩:∃b,b=(b1&&(decide ((c.toNat:Int)≤122))):=⟨_,rfl⟩
 obtain⟨b3,hb3⟩:∃b,b=(b2||((decide (65≤(c.toNat:Int)))&&(decide ((c.toNat:Int)≤90)))):=⟨_,rfl⟩
 refine Ac (CS:=[(4,(b1=true→b1=true)),(5,(b1=true→b1=true)),(8,((!b2)=true→(!b2)=true)),(9,((!b2)=true→(!b2)=true)),(11,(((!b2)&&(decide (65≤(c.toNat:Int))))=true→((!b2)&&(decide (65≤(c.toNat:Int))))=true)),(12,((!b2)=true→((!b2)=true)∧((decide (65≤(c.toNat:Int)))=true→((!b2)&&(decide (65≤(c.toNat:Int))))=true))),(13,(b2=false→(!b2)=true))]) [6,7,10,11,12,13,14,15] [2] [] hk0 (vk 3 5 (a:=.bool (decide (97≤(c.toNat:Int)))) (b:=.bool b1) (Imp.of_eq (by rw[hb1]))<|vk 7 9 (a:=.bool (b1&&(decide ((c.toNat:Int)≤122)))) (b:=.bool b2) (Imp.of_eq (by rw[hb2]))<|vk 14 16 (a:=.bool (b2||((decide (65≤(c.toNat:Int)))&&(decide ((c.toNat:Int)≤90))))) (b:=.bool b3) (Imp.of_eq (by rw[hb3]))<|v0) (by refine cc _ ?_<|cc _ ?_<|cc _ ?_<|cc _ ?_<|cc _ ?_<|cc _ ?_<|cc _ ?_ c0<;>(intros;simp_all;done)) ?_;refine Ad (RK wR [(.bool b3)] ?_);subst hb3 hb2 hb1;refine Same.of_eq ?_;simp only[Ag];congr 1;unfold Cf;rw[Bool.eq_iff_iff];simp only[Bool.and_eq_true,Bool.or_eq_true,decide_eq_true_eq];omega
theorem Sw (a b:Bool) (g:Int) (hg : -1≤g∧g≤1) :
  FnV prog 214 [(.bool a),(.bool b),(.int .i64 g)] (.int .i64 (H8 a b g)):=by
 refine Ax [.tmp 6] func214 ntmps214 fun B F hF=>?_;refine Aa [] [0,1,2] (Ab ?_);refine Au (Ac (CS:=[(3,(a=true→a=true)),(4,(a=true→a=true))]) [10,11] [0,1,2,7] [] hk0 v0 (by refine cc _ ?_<|cc _ ?_ c0<;>simp) ?_);refine A7 (q:=a&&(!b)) (fun c1=>?_) fun c1=>?_
 ·try simp only[Aq] at c1
  refine Aa [] [6] (Ad ?_);refine RK wR [(.int .i64 g)] (Same.of_eq ?_);simp only[Ag];congr 1;unfold H8
  cases a<;>cases b<;>first|rfl|(show 0-g = -g;omega)|(simp at c1;done)|(simp at c2;done)|contradiction
 ·try simp only[Aq] at c1
  refine Ac (CS:=[(3,(b=true→b=true)),(4,(b=true→b=true))]) [17,18] [2,14] [] hk0 v0 (by refine cc _ ?_<|cc _ ?_ c0<;>simp) ?_;refine A7 (q:=b&&(!a)) (fun c2=>?_) fun c2=>?_
  ·try simp only[Aq] at c2
   refine Ac [] [6] [] hk0 v0 (cc 1 (p:=(-9223372036854775808≤0-g∧0-g≤9223372036854775807)) (by omega)<|c0) ?_;refine Ad ?_;refine RK wR [(.int .i64 (0-g))] (Same.of_eq ?_);simp only[Ag];congr 1;unfold H8
   cases a<;>cases b<;>first|rfl|(show 0-g = -g;omega)|(simp at c1;done)|(simp at c2;done)|contradiction
  ·try simp only[Aq] at c2
   refine Ae ?_;refine Aa [] [6] (Ad ?_);refine RK wR [(.int .i64 0)] (Same.of_eq ?_);simp only[Ag];congr 1;unfold H8
   cases a<;>cases b<;>first|rfl|(show 0-g = -g;omega)|(simp at c1;done)|(simp at c2;done)|contradiction
theorem Jw (s:List UInt8) (a:AV) (p:UInt8→Bool) (hl:s.length≤9223372036854775806) (ha:∀c:UInt8,FunV prog a [.int .u8 (c.toNat:Int)] (.bool (p c))) :
  FnV prog 151 [(.str s),(.clo a)] (.int .i64 ((Ba p s:Int))):=by
 refine Ax [.tmp 4] func151 ntmps151 fun B F hF=>?_;refine Aa [] [0,1] ?_;refine Aa [] [0,1,5] (Ab ?_);refine Au (B4 (fun g y=>∃(i:Nat),i≤s.length∧(∀j,j < i→p (Af s j)=true)∧y=⟨[(0,(.str s)),(1,(.clo a)),(5,(.int .i64 ((i:Int))))],[],0⟩∧g=s.length-i) [0,1,5] 0 _ (by omega) ⟨0,(by omega),(by exact fun j hj=>by omega),(by kernel_rfl),rfl⟩ ?_);rintro g1 y1 ⟨i,f1_1,f1_2,rfl,rfl⟩;refine Ab ?_;refine Ab (Aj ?_)
 obtain⟨b1,hb1⟩:∃b,b=(decide ((i:Int) < (s.length:Int))):=⟨_,rfl⟩
 refine A9 5 0 [] [0,1,5,10] [] hk0 v0 c0 (J4 10 (a:=.bool (decide ((i:Int) < (s.length:Int)))) (.bool b1) (by kernel_rfl) (Imp.of_eq (by rw[hb1])) ?_);refine I6 b1 (fun c1=>?_) (fun c1=>?_)
 ·refine J4 10 (a:=.bool b1) (.bool true) (by kernel_rfl) (Imp.of_eq (by rw[c1])) (A9 4 5 [] [0,1,5,10,11,14] [] hk0 v0 (cc 8 (p:=(0≤(i:Int)∧i < s.length)) (by(intros;simp_all;done))<|c0) ?_);refine Fc (a:=(.clo a)) (al:=[(.int .u8 (((Af s i).toNat:Int)))]) (r:=(.bool (p (Af s i)))) (by kernel_rfl) (by kernel_rfl) (by kernel_rfl) (by kernel_rfl) (by kernel_rfl) ((ha (Af s i)).clo) pS (An 10 [] [0,1,5,16] [] hk0 v0 c0 ?_);refine A7 (q:=p (Af s i)) (fun c2=>?_) fun c2=>?_
  ·subst hb1
   try simp only[Aq] at c2
   refine Ae (Au ?_);refine Aj (An 0 [] [0,1,5] [] hk0 v0 (cc 1 (p:=(-9223372036854775808≤(i:Int)+1∧(i:Int)+1≤9223372036854775807)) (by omega)<|c0) ?_);refine⟨by kernel_rfl,_,?_,i+1,?_,?_,(by kernel_rfl),rfl⟩
   ·simp_all;omega
   ·simp_all;omega
   ·intro j hj;by_cases h:j=i
    ·subst h;assumption
    ·exact f1_2 j (by omega)
  ·subst hb1
   try simp only[Aq] at c2
   refine Br (Aa [] [4] ?_);refine Ad (RK wR [(.int .i64 ((i:Int)))] ?_);exact Same.of_eq (by simp only[Ag];rw[Q6o (i:=i) (by simp_all) f1_2 (by simp_all)])
 ·refine J4 10 (a:=.bool b1) (.bool false) (by kernel_rfl) (Imp.of_eq (by rw[c1])) ?_;refine An 5 [] [0,1,5,16] [] hk0 v0 c0 (Cy ?_);refine Br (Aa [] [4] ?_);refine Ad (RK wR [(.int .i64 ((i:Int)))] ?_);subst hb1;exact Same.of_eq (by simp only[Ag];rw[Q6p (fun j hj=>f1_2 j (by simp_all;omega))];congr 2;simp_all;omega)
theorem Zj (s:List UInt8) :
  FnV prog 232 [(.str s)] (.int .i64 (D4 s)):=by
 have hb:=(Af s 0).toNat_lt
 have hp:s=[]∨0 < s.length:=by cases s<;>simp
 refine Ax [.tmp 2] func232 ntmps232 fun B F hF=>?_;refine Aa [] [0] ?_;refine Ab (Au ?_)
 obtain⟨b1,hb1⟩:∃b,b=(decide (s=[])):=⟨_,rfl⟩
 have qh1:(((!b1)=true→((!b1)=true)∧(0≤(0:Int)∧0 < s.length))):=by
  rcases hp with hp|hp<;>first|(simp_all;done)|omega|(simp_all;omega)|(simp;omega)
 refine Ac [7,8] [0,3] [] (hkg 5 (!b1) Jt (fun cg=>Kn (Af s 0))<|hk0) (vk 3 6 (a:=.bool (decide (s=[]))) (b:=.bool b1) (Imp.of_eq (by rw[hb1]))<|v0) (cc 4 (p:=((!b1)=true→((!b1)=true)∧(0≤(0:Int)∧0 < s.length))) qh1<|cc 5 (p:=(!b1)=true→(!b1)=true) (by simp)<|cc 6 (p:=(b1=false→(!b1)=true)) (by simp)<|c0) ?_;refine A7 (q:=b1||(Bc (Af s 0))) (fun c1=>?_) fun c1=>?_
 ·subst hb1
  try simp only[Aq] at c1
  refine Aa [] [2] (Ad ?_);refine RK wR [(.int .i64 0)] (Same.of_eq ?_);simp only[Ag];congr 1;unfold D4;rw[if_pos c1]
 ·subst hb1
  try simp only[Aq] at c1
  have qh2:((0≤(0:Int)∧0 < s.length)):=by
   rcases hp with hp|hp<;>first|(simp_all;done)|omega|(simp_all;omega)|(simp;omega)
  refine Ac [] [0,11] [] hk0 v0 (cc 1 (p:=(0≤(0:Int)∧0 < s.length)) qh2<|c0) ?_;refine A4 (p:=((Af s 0).toNat:Int)=126) (fun c2=>?_) fun c2=>?_
  ·refine Aa [] [2] (Ad ?_);refine RK wR [(.int .i64 (-1))] (Same.of_eq ?_);simp only[Ag];congr 1;unfold D4;rw[if_neg (by simp_all),if_pos (by omega)]
  ·have qh3:((0≤(0:Int)∧0 < s.length)):=by
    rcases hp with hp|hp<;>first|(simp_all;done)|omega|(simp_all;omega)|(simp;omega)
   refine Ac [] [0,15] [] (hk 2 Ow (Qc (Af s 0))<|hk0) v0 (cc 1 (p:=(0≤(0:Int)∧0 < s.length)) qh3<|c0) ?_;refine A7 (q:=Cf (Af s 0)) (fun c3=>?_) fun c3=>?_
   ·have qh4:((0≤(0:Int)∧0 < s.length))∧((-9223372036854775808≤((Af s 0).toNat:Int)∧((Af s 0).toNat:Int)≤9223372036854775807)):=by
     rcases hp with hp|hp<;>first|(simp_all;done)|omega|(simp_all;omega)|(simp;omega)
    refine Ac [] [2] [] hk0 v0 (cc 1 (p:=(0≤(0:Int)∧0 < s.length)) qh4.1<|cc 2 (p:=(-9223372036854775808≤((Af s 0).toNat:Int)∧((Af s 0).toNat:Int)≤9223372036854775807)) qh4.2<|c0) ?_;refine Ad ?_;refine RK wR [(.int .i64 (((Af s 0).toNat:Int)))] (Same.of_eq ?_);simp only[Ag];congr 1;unfold D4;rw[if_neg (by simp_all),if_neg (by omega),if_pos (by assumption)]
   ·refine Ae ?_
    have qh5:((0≤(0:Int)∧0 < s.length))∧((-9223372036854775808≤((Af s 0).toNat:Int)∧((Af s 0).toNat:Int)≤9223372036854775807))∧((-9223372036854775808≤256+((Af s 0).toNat:Int)∧256+((Af s 0).toNat:Int)≤9223372036854775807)):=by
     rcases hp with hp|hp<;>first|(simp_all;done)|omega|(simp_all;omega)|(simp;omega)
    refine Ac [] [2] [] hk0 v0 (cc 1 (p:=(0≤(0:Int)∧0 < s.length)) qh5.1<|cc 2 (p:=(-9223372036854775808≤((Af s 0).toNat:Int)∧((Af s 0).toNat:Int)≤9223372036854775807)) qh5.2.1<|cc 3 (p:=(-9223372036854775808≤256+((Af s 0).toNat:Int)∧256+((Af s 0).toNat:Int)≤9223372036854775807)) qh5.2.2<|c0) ?_;refine Ad ?_;refine RK wR [(.int .i64 (256+((Af s 0).toNat:Int)))] (Same.of_eq ?_);simp only[Ag];congr 1;unfold D4;rw[if_neg (by simp_all),if_neg (by omega),if_neg (by simp_all)]
end
theorem Yq (s:List UInt8) (c:UInt8) (hc:c.toNat < 128):FnV prog 221 [.str s,.str [c]] (.str (Lib.trimLeftB s c)):=by
 intro F w vs hF hv;obtain⟨v,r1,rfl,h1,hv⟩:=hv.cons_inv;obtain⟨v2,rfl,h2⟩:=hv.single_inv;simp only[VR] at h1 h2;subst h1 h2;refine(Tryz.strings_TrimLeft_one ⟨s.toArray⟩ c hc w).mono ?_;rintro e w' ⟨he,rfl⟩;exact⟨_,he,Below.refl _ _,F,fun _ _ e=>e,hF,fun _ _ e => .inl e,by simp only[VR,List.toList_toArray]⟩
theorem Q9e (a b:List UInt8):FnV prog 231 [.str a,.str b] (.int .i64 (Lib.compareBytes a b)):=by
 intro F w vs hF hv;obtain⟨v,r1,rfl,h1,hv⟩:=hv.cons_inv;obtain⟨v2,rfl,h2⟩:=hv.single_inv;simp only[VR] at h1 h2;subst h1 h2;refine(Tryz.strings_Compare ⟨a.toArray⟩ ⟨b.toArray⟩ w).mono ?_;rintro e w' ⟨he,rfl⟩;exact⟨_,he,Below.refl _ _,F,fun _ _ e=>e,hF,fun _ _ e => .inl e,by simp only[VR,List.toList_toArray]⟩
section
attribute [local irreducible] SW SO Bk
theorem FnV.of_plain {P:Program} {f:Nat} {al:List AV} {r:AV} (vs0:List Value) (rv:Value) (ha:∀F vs,VRl (ofF F) al vs→vs=vs0) (hr:∀F,VR (ofF F) r rv) (h:∀w:World,Calls P f vs0.toArray w (Ret fun v w'=>v=rv∧Below w.heap.size w w')):FnV P f al r:=by
 intro F w vs hF hv;rw[ha F vs hv];refine(h w).mono ?_;rintro e w' ⟨v,he,rfl,hb⟩;exact⟨_,he,hb,F,fun _ _ e=>e,fun b o e=>(hb.block b (Dl (hF b o e))).trans (hF b o e),fun _ _ e => .inl e,hr F⟩
theorem Vx {P:Program} {f:Nat} {vs:Array Value} {w:World} {rv:Value} (h:Calls P f vs w (Ret fun v w'=>v=rv∧w=w')):Calls P f vs w (Ret fun v w'=>v=rv∧Below w.heap.size w w') :=
 h.mono fun e w' hh=>by
  obtain⟨v,he,h1,rfl⟩:=hh;exact⟨v,he,h1,Below.refl _ _⟩
theorem Rr {F:Nat→Option Obj} {a b:AV} {x y:Value} (ha:∀F v,VR (ofF F) a v→v=x) (hb:∀F v,VR (ofF F) b v→v=y) {vs:List Value} (h:VRl (ofF F) [a,b] vs):vs=[x,y]:=by
 obtain⟨v,r1,rfl,h1,hv⟩:=h.cons_inv;obtain⟨v2,rfl,h2⟩:=hv.single_inv;rw[ha _ _ h1,hb _ _ h2]
theorem Np {l:List UInt8}:∀F v,VR (ofF F) (.str l) v→v=Go.Proofs.YtglcebdfdehidaaGreatDoor.S l:=fun F v h=>by simpa only [VR] using h
theorem Q30 {k:IntKind} {n:Int}:∀F v,VR (ofF F) (.int k n) v→v = .int k n:=fun F v h=>by simpa only [VR] using h
theorem Y6t (l:List UInt8) (c:UInt8):FnV prog 150 [.str l,.int .u8 (c.toNat:Int)] (.int .i64 (Lib.indexByte l c)) :=
 FnV.of_plain [S l,.int .u8 (c.toNat:Int)] (.int .i64 (Lib.indexByte l c)) (fun _ _ h=>Rr Np Q30 h) (fun _=>by simp only[VR]) fun w=>Vx (Y6s l c w)
theorem Y6r (l:List UInt8) (hl:l.length≤9223372036854775807):FnV prog 153 [.str l,.int .u8 45] (.int .i64 (B7 l 45 l.length)) :=
 FnV.of_plain [S l,.int .u8 45] (.int .i64 (B7 l 45 l.length)) (fun _ _ h=>Rr Np Q30 h) (fun _=>by simp only[VR]) fun w=>Vx (Y6q l 45 w hl)
theorem Y65 (l:List UInt8):FnV prog 154 [.str l,.str [58]] (.bool (l.contains 58)) :=
 FnV.of_plain [S l,S [58]] (.bool (l.contains 58)) (fun _ _ h=>Rr Np Np h) (fun _=>by simp only[VR]) fun w=>Vx (Y64 l 58 w)
theorem Y63 (l:List UInt8) (hl:l.length≤9223372036854775807):FnV prog 152 [.str l,.str [58]] (.tup [.str (if 0≤Lib.indexByte l 58 then l.take (Lib.indexByte l 58).toNat else l),.str (if 0≤Lib.indexByte l 58 then l.drop ((Lib.indexByte l 58).toNat+1) else []),.bool (decide (0≤Lib.indexByte l 58))]):=by
 refine FnV.of_plain [S l,S [58]] (Jv l 58) (fun _ _ h=>Rr Np Np h) (fun F=>?_) fun w=>?_
 ·unfold Jv;by_cases h:0≤Lib.indexByte l 58
  ·rw[if_pos h,if_pos h,if_pos h,decide_eq_true h];simp only[VR];exact⟨_,.cons (by simp only[VR]) (.cons (by simp only[VR]) (.cons (by simp only[VR]) .nil)),rfl⟩
  ·rw[if_neg h,if_neg h,if_neg h,decide_eq_false h];simp only[VR];exact⟨_,.cons (by simp only[VR]) (.cons (by simp only[VR]) (.cons (by simp only[VR]) .nil)),rfl⟩
 ·exact Y62 l 58 w hl
theorem X56 (r:List UInt8) (c:UInt8) : -1≤B7 r c r.length∧B7 r c r.length < r.length:=by
 rcases Q3n r c r.length with h|⟨q,h,hq⟩<;>omega
theorem Tx {l r ep v rl:List UInt8} (hh:Ho l=true) (hr:r=(if 0≤Lib.indexByte l 58 then l.drop ((Lib.indexByte l 58).toNat+1) else l)) (he:ep=(if 0≤Lib.indexByte l 58 then l.take (Lib.indexByte l 58).toNat else [])) (hd:0≤Lib.indexByte l 58→G9 (l.take (Lib.indexByte l 58).toNat)=true)
  (hv:v=(if 0≤B7 r 45 r.length then r.take (B7 r 45 r.length).toNat else r)) (hrl:rl=(if 0≤B7 r 45 r.length then r.drop ((B7 r 45 r.length).toNat+1) else [])) (hn:0≤B7 r 45 r.length→¬rl=[]):Ch l=(if v=[]∨r.contains 58=true then 30 else 0)∧Qr l=(ep,v,rl):=by
 constructor
 ·have ht:Km l=My r:=by
   unfold Km;rw[hh,Bool.true_and];by_cases h:0≤Lib.indexByte l 58
   ·rw[if_pos h,hd h,Bool.true_and,hr,if_pos h]
   ·rw[if_neg h,hr,if_neg h]
  have ht2:My r = !(decide (v=[])||r.contains 58):=by
   unfold My;by_cases h:0≤B7 r 45 r.length
   ·have:=hn h;rw[if_pos h] at hv hrl ⊢;rw[←hrl,←hv,decide_eq_false this,Bool.not_or];rfl
   ·rw[if_neg h] at hv ⊢;rw[hv,Bool.not_or]
  unfold Ch;rw[ht,ht2];by_cases h1:v=[]<;>by_cases h2:r.contains 58=true<;>simp[h1,h2]
 ·unfold Qr;simp only[←hr];rw[←he,←hv,←hrl]
theorem X5n (c:UInt8) :
  FnV prog 147 [(.int .u8 ((c.toNat:Int)))] (.bool (F8 c)):=by
 refine Ax [.tmp 2] func147 ntmps147 fun B F hF=>?_;refine Aa [] [0] ?_
 obtain⟨b1,hb1⟩:∃b,b=((Bc c)||(Cf c)):=⟨_,rfl⟩
 refine Ac (CS:=[(4,(!(Bc c))=true→(!(Bc c))=true),(5,((Bc c)=false→(!(Bc c))=true)),(8,(!b1)=true→(!b1)=true),(9,((!b1)=true→(!b1)=true)),(10,(b1=false→(!b1)=true))]) [6,10,12] [2] [] (hk 1 Jt (Kn c)<|hkg 4 (!(Bc c)) Ow (fun cg=>Qc c)<|hkg 8 (!b1) Xo (fun cg=>Y6t midL c)<|hk0) (vk 7 9 (a:=.bool ((Bc c)||(Cf c))) (b:=.bool b1) (Imp.of_eq (by rw[hb1]))<|v0) (by refine cc _ ?_<|cc _ ?_<|cc _ ?_<|cc _ ?_<|cc _ ?_ c0<;>simp) ?_;refine Ad (RK wR [(.bool (b1||(decide (0≤(Lib.indexByte midL c)))))] ?_);subst hb1;refine Same.of_eq ?_;simp only[Ag];rw[Q35,Bool.or_assoc];rfl
theorem X8r {l:List UInt8} (c:(l=[]∨(60:Int) < (l.length:Int))∨¬(Ba F8 l:Int)=(l.length:Int)):Ch l=30:=by
 refine Q43 ?_;unfold Ho;rcases c with (h|h)|h
 ·rw[h];rfl
 ·rw[decide_eq_false (show ¬l.length≤60 by omega)];simp
 ·rw[show l.all F8=false from by cases hq:l.all F8 with|false=>rfl|true=>exact absurd ((Uc F8 l).2 hq) h];rfl
theorem X8s {l:List UInt8} (hh:Ho l=true) (h0:0≤Lib.indexByte l 58) (c:(l.take (Lib.indexByte l 58).toNat=[]∨(9:Int) < ((l.take (Lib.indexByte l 58).toNat).length:Int))∨¬(Ba Bc (l.take (Lib.indexByte l 58).toNat):Int)=((l.take (Lib.indexByte l 58).toNat).length:Int)):Ch l=30:=by
 have hb:G9 (l.take (Lib.indexByte l 58).toNat)=false:=by
  unfold G9;rcases c with (h|h)|h
  ·rw[h];rfl
  ·rw[decide_eq_false (show ¬(l.take (Lib.indexByte l 58).toNat).length≤9 by omega)];simp
  ·rw[show(l.take (Lib.indexByte l 58).toNat).all Ju=false from by cases hq:(l.take (Lib.indexByte l 58).toNat).all Ju with|false=>rfl|true=>exact absurd ((Uc Ju _).2 hq) h];rfl
 unfold Ch Km;rw[hh,Bool.true_and,if_pos h0,hb];rfl
theorem Q40 {l r:List UInt8} (hh:Ho l=true) (hr:r=(if 0≤Lib.indexByte l 58 then l.drop ((Lib.indexByte l 58).toNat+1) else l)) (hd:0≤Lib.indexByte l 58→G9 (l.take (Lib.indexByte l 58).toNat)=true) (hy:0≤B7 r 45 r.length) (h:r.drop ((B7 r 45 r.length).toNat+1)=[]):Ch l=30:=by
 have ht:Km l=My r:=by
  unfold Km;rw[hh,Bool.true_and];by_cases h:0≤Lib.indexByte l 58
  ·rw[if_pos h,hd h,Bool.true_and,hr,if_pos h]
  ·rw[if_neg h,hr,if_neg h]
 unfold Ch;rw[ht];unfold My;rw[if_pos hy,h];rfl
theorem Ty (l:List UInt8) (hl:l.length≤4611686018427387904) :
  FnV prog 90 [(.str l)] (.tup [.agg [.str (C9 l).1,.str (C9 l).2.1,.str (C9 l).2.2],.int .i64 (Ch l)]):=by
 refine Ax [.cell 2 157,.tmp 3] func90 ntmps90 fun B F hF=>?_;refine Aa [] [0,2] ?_;refine Aa [] [0,2,4] (Ab ?_)
 obtain⟨b1,hb1⟩:∃b,b=(decide (l=[])):=⟨_,rfl⟩
 obtain⟨b2,hb2⟩:∃b,b=(b1||(decide (60 < (l.length:Int)))):=⟨_,rfl⟩
 refine Ac (CS:=[(4,((!b1)=true→(!b1)=true)),(5,((!b1)=true→(!b1)=true)),(6,(b1=false→(!b1)=true)),(10,(!b2)=true→(!b2)=true∧(!b2)=true),(12,((!b2)=true→(!b2)=true)),(13,((!b2)=true→(!b2)=true∧(!b2)=true)),(14,(b2=false→(!b2)=true))]) [14,15,16,19,20,22,23,24] [0,2,25] [] (hkg 10 (!b2) (al:=[(.str l),(.fn 147 [] [])]) I2 (fun cg=>(Jw l (.fn 147 [] []) F8 (by first|omega|(split<;>simp<;>omega)) (fun c=>FunV.of (by exact Y0z) (X5n c))).of_args (ImpL.cons Imp.refl (ImpL.cons (Imp.clo rfl) ImpL.nil)))<|hk0) (vk 3 13 (a:=.bool (decide (l=[]))) (b:=.bool b1) (Imp.of_eq (by rw[hb1]))<|vk 8 18 (a:=.bool (b1||(decide (60 < (l.length:Int))))) (b:=.bool b2) (Imp.of_eq (by rw[hb2]))<|v0) (by refine cc _ ?_<|cc _ ?_<|cc _ ?_<|cc _ ?_<|cc _ ?_<|cc _ ?_<|cc _ ?_ c0<;>simp) ?_;refine A7 (q:=b2||(!decide ((Ba F8 l:Int)=(l.length:Int)))) (fun c1=>?_) fun c1=>?_
 ·subst hb2 hb1
  try simp only[Aq] at c1
  refine Aa [] [2,3] (Ad ?_);refine RK wR [(.agg [(.str []),(.str []),(.str [])]),(.int .i64 30)] (Same.of_eq ?_);simp only[Ag];have h0:Ch l=30:=X8r c1;have h1:C9 l=([],[],[]):=Ln h0.symm;rw[h0,h1]
 ·subst hb2 hb1
  try simp only[Aq] at c1
  have hh:Ho l=true:=by
   unfold Ho;rw[show l.all F8=true from (Uc F8 l).1 c1.2,decide_eq_true (show 1≤l.length by have:=List.length_pos_iff.2 c1.1.1;omega),decide_eq_true (by omega)];rfl
  refine Ae ?_;refine Aa [] [0,2,5] (Aa [] [0,2,5,6] ?_);refine Ev (fun y=>∃(r:List UInt8) (ep:List UInt8),r=(if 0≤Lib.indexByte l 58 then l.drop ((Lib.indexByte l 58).toNat+1) else l)∧ep=(if 0≤Lib.indexByte l 58 then l.take (Lib.indexByte l 58).toNat else [])∧(0≤Lib.indexByte l 58→G9 (l.take (Lib.indexByte l 58).toNat)=true)∧y=⟨[(2,(.ptr 0 0)),(5,(.ptr 1 0)),(6,(.str r))],[(0,(.row [(.str []),(.str []),(.str [])] 157)),(1,(.row [(.str ep),(.str []),(.str [])] 157))],2⟩) [2,5,6] 2 (by omega) ?_ ?_
  ·refine Ac [] [2,5,6,7,8,9] [] (hk 1 Y0y (Y63 l (by omega))<|hk0) v0 c0 ?_;refine Aa [] [2,5,6,7,8,34] ?_;refine A4 (p:=0≤Lib.indexByte l 58) (fun c2=>?_) fun c2=>?_
   ·refine Ab ?_
    obtain⟨b3,hb3⟩:∃b,b=(decide ((if 0≤Lib.indexByte l 58 then l.take (Lib.indexByte l 58).toNat else l)=[])):=⟨_,rfl⟩
    obtain⟨b4,hb4⟩:∃b,b=(b3||(decide (9 < ((if 0≤Lib.indexByte l 58 then l.take (Lib.indexByte l 58).toNat else l).length:Int)))):=⟨_,rfl⟩
    refine Ac (CS:=[(4,((!b3)=true→(!b3)=true)),(5,((!b3)=true→(!b3)=true)),(6,(b3=false→(!b3)=true)),(9,(!b4)=true→(!b4)=true),(11,((!b4)=true→(!b4)=true)),(12,((!b4)=true→(!b4)=true∧(!b4)=true)),(13,(b4=false→(!b4)=true))]) [38,39,40,43,45,46,47] [2,5,7,8,48] [] (hkg 9 (!b4) (al:=[(.str ((if 0≤Lib.indexByte l 58 then l.take (Lib.indexByte l 58).toNat else l))),(.fn 148 [] [])]) I2 (fun cg=>(Jw (if 0≤Lib.indexByte l 58 then l.take (Lib.indexByte l 58).toNat else l) (.fn 148 [] []) Bc (by first|omega|(split<;>simp<;>omega)) (fun c=>FunV.of (by exact Jt) (Kn c))).of_args (ImpL.cons Imp.refl (ImpL.cons (Imp.clo rfl) ImpL.nil)))<|hk0) (vk 3 37 (a:=.bool (decide ((if 0≤Lib.indexByte l 58 then l.take (Lib.indexByte l 58).toNat else l)=[]))) (b:=.bool b3) (Imp.of_eq (by rw[hb3]))<|vk 7 41 (a:=.bool (b3||(decide (9 < ((if 0≤Lib.indexByte l 58 then l.take (Lib.indexByte l 58).toNat else l).length:Int))))) (b:=.bool b4) (Imp.of_eq (by rw[hb4]))<|v0) (by refine cc _ ?_<|cc _ ?_<|cc _ ?_<|cc _ ?_<|cc _ ?_<|cc _ ?_<|cc _ ?_ c0<;>simp) ?_
    refine A7 (q:=b4||(!decide ((Ba Bc (if 0≤Lib.indexByte l 58 then l.take (Lib.indexByte l 58).toNat else l):Int)=((if 0≤Lib.indexByte l 58 then l.take (Lib.indexByte l 58).toNat else l).length:Int)))) (fun c3=>?_) fun c3=>?_
    ·subst hb4 hb3
     try simp only[Aq] at c3
     refine Aa [] [2,3] (Ad ?_);refine RK wR [(.agg [(.str []),(.str []),(.str [])]),(.int .i64 30)] (Same.of_eq ?_);simp only[Ag];have h0:Ch l=30:=X8s hh c2 (by rw[if_pos c2] at c3;exact c3);have h1:C9 l=([],[],[]):=Ln h0.symm;rw[h0,h1]
    ·subst hb4 hb3
     try simp only[Aq] at c3
     have hdg:G9 (l.take (Lib.indexByte l 58).toNat)=true:=by
      rw[if_pos c2] at c3;unfold G9;rw[show(l.take (Lib.indexByte l 58).toNat).all Ju=true from (Uc Ju _).1 c3.2,decide_eq_true (show 1≤_ by have:=List.length_pos_iff.2 c3.1.1;omega),decide_eq_true (by omega)];rfl
     refine Ae ?_;refine Aj (Ex [] [2,5,6] ?_);refine⟨by kernel_rfl,(if 0≤Lib.indexByte l 58 then l.drop ((Lib.indexByte l 58).toNat+1) else []),(if 0≤Lib.indexByte l 58 then l.take (Lib.indexByte l 58).toNat else l),?_,?_,?_,(by kernel_rfl)⟩
     ·simp only[if_pos c2]
     ·simp only[if_pos c2]
     ·exact fun _=>hdg
   ·refine Ae ?_;refine⟨by kernel_rfl,l,[],?_,?_,?_,(by kernel_rfl)⟩
    ·simp only[if_neg c2]
    ·simp only[if_neg c2]
    ·exact fun h=>absurd h c2
  ·rintro y1 ⟨r,ep,hr,hep,hdg,rfl⟩
   have hrl:r.length≤l.length:=by rw[hr];split<;>simp
   have hyb:=X56 r 45;have hi58:=Q34 l 58;refine Aa [] [2,5,6] ?_;refine Ev (fun y=>∃(v:List UInt8) (rl:List UInt8),v=(if 0≤B7 r 45 r.length then r.take (B7 r 45 r.length).toNat else r)∧rl=(if 0≤B7 r 45 r.length then r.drop ((B7 r 45 r.length).toNat+1) else [])∧(0≤B7 r 45 r.length→¬rl=[])∧y=⟨[(2,(.ptr 0 0)),(5,(.ptr 1 0)),(6,(.str r))],[(0,(.row [(.str []),(.str []),(.str [])] 157)),(1,(.row [(.str ep),(.str v),(.str rl)] 157))],2⟩) [2,5,6] 2 (by omega) ?_ ?_
   ·refine Ac [] [2,5,6,10] [] (hk 1 Y0x (Y6r r (by omega))<|hk0) v0 c0 ?_;refine Aa [] [2,5,6,10,58] ?_;refine A4 (p:=0≤(B7 r 45 r.length)) (fun c4=>?_) fun c4=>?_
    ·refine Da (CS:=[(2,(0≤(0:Int)∧(0:Int)≤B7 r 45 r.length∧B7 r 45 r.length≤(r.length:Int))),(5,(-9223372036854775808≤(B7 r 45 r.length)+1∧(B7 r 45 r.length)+1≤9223372036854775807)),(6,(0≤(B7 r 45 r.length)+1∧(B7 r 45 r.length)+1≤(r.length:Int)∧(r.length:Int)≤(r.length:Int)))]) [] [2,5,6] [] hk0 v0 (by refine cc _ ?_<|cc _ ?_<|cc _ ?_ c0<;>omega) ?_;refine Aa [] [2,5,6,70] ?_;refine A4 (p:=(r.take r.length).drop (((B7 r 45 r.length)+1).toNat)=[]) (fun c5=>?_) fun c5=>?_
     ·refine Aa [] [2,3] (Ad ?_);refine RK wR [(.agg [(.str []),(.str []),(.str [])]),(.int .i64 30)] (Same.of_eq ?_);simp only[Ag];have h0:Ch l=30:=Q40 hh hr hdg c4 (by have h:=c5;rw[List.take_length] at h;rw[←h];congr 1;omega);have h1:C9 l=([],[],[]):=Ln h0.symm;rw[h0,h1]
     ·refine Ae ?_;refine⟨by kernel_rfl,((r.take ((B7 r 45 r.length:Int).toNat)).drop 0),((r.take r.length).drop (((B7 r 45 r.length)+1).toNat)),?_,?_,?_,(by kernel_rfl)⟩
      ·rw[if_pos c4];simp
      ·rw[if_pos c4];try rw[List.take_length];congr 1;omega
      ·intro _;exact c5
    ·refine Ae ?_;refine⟨by kernel_rfl,r,[],?_,?_,?_,(by kernel_rfl)⟩
     ·rw[if_neg c4]
     ·rw[if_neg c4]
     ·exact fun h=>absurd h c4
   ·rintro y2 ⟨v,rl,hv,hrr,hnn,rfl⟩;refine Ab ?_
    obtain⟨b5,hb5⟩:∃b,b=(decide (v=[])):=⟨_,rfl⟩
    refine Ac (CS:=[(5,(!b5)=true→(!b5)=true),(6,(b5=false→(!b5)=true))]) [76] [2,5,78] [] (hkg 5 (!b5) Y0w (fun cg=>Y65 r)<|hk0) (vk 4 75 (a:=.bool (decide (v=[]))) (b:=.bool b5) (Imp.of_eq (by rw[hb5]))<|v0) (by refine cc _ ?_<|cc _ ?_ c0<;>simp) ?_;refine A7 (q:=b5||(r.contains 58)) (fun c6=>?_) fun c6=>?_
    ·subst hb5
     try simp only[Aq] at c6
     refine Aa [] [2,3] (Ad ?_);refine RK wR [(.agg [(.str []),(.str []),(.str [])]),(.int .i64 30)] (Same.of_eq ?_);simp only[Ag]
     have h0:Ch l=30:=by rw[(Tx hh hr hep hdg hv hrr hnn).1,if_pos (by simpa using c6)]
     have h1:C9 l=([],[],[]):=Ln h0.symm;rw[h0,h1]
    ·subst hb5
     try simp only[Aq] at c6
     refine Ae (Aa [] [2,3] ?_);refine Ad (RK wR [(.agg [(.str ep),(.str v),(.str rl)]),(.int .i64 0)] ?_);have hf:=Tx hh hr hep hdg hv hrr hnn
     have h0:Ch l=0:=by rw[hf.1,if_neg (by simpa using c6)]
     exact Same.of_eq (by simp only[Ag];rw[Q41 h0.symm,hf.2,h0])
theorem X2g (c:UInt8) :
  FnV prog 191 [(.int .u8 ((c.toNat:Int)))] (.bool (Cf c)):=by
 refine Ax [.tmp 2] func191 ntmps191 fun B F hF=>?_;refine Aa [] [0] ?_
 obtain⟨b1,hb1⟩:∃b,b=(decide (97≤(c.toNat:Int))):=⟨_,rfl⟩
 obtain⟨b2,hb2⟩:∃b,b=(b1&&(decide ((c.toNat:Int)≤122))):=⟨_,rfl⟩
 obtain⟨b3,hb3⟩:∃b,b=(b2||((decide (65≤(c.toNat:Int)))&&(decide ((c.toNat:Int)≤90)))):=⟨_,rfl⟩
 refine Ac (CS:=[(4,(b1=true→b1=true)),(5,(b1=true→b1=true)),(8,((!b2)=true→(!b2)=true)),(9,((!b2)=true→(!b2)=true)),(11,(((!b2)&&(decide (65≤(c.toNat:Int))))=true→((!b2)&&(decide (65≤(c.toNat:Int))))=true)),(12,((!b2)=true→((!b2)=true)∧((decide (65≤(c.toNat:Int)))=true→((!b2)&&(decide (65≤(c.toNat:Int))))=true))),(13,(b2=false→(!b2)=true))]) [6,7,10,11,12,13,14,15] [2] [] hk0 (vk 3 5 (a:=.bool (decide (97≤(c.toNat:Int)))) (b:=.bool b1) (Imp.of_eq (by rw[hb1]))<|vk 7 9 (a:=.bool (b1&&(decide ((c.toNat:Int)≤122)))) (b:=.bool b2) (Imp.of_eq (by rw[hb2]))<|vk 14 16 (a:=.bool (b2||((decide (65≤(c.toNat:Int)))&&(decide ((c.toNat:Int)≤90))))) (b:=.bool b3) (Imp.of_eq (by rw[hb3]))<|v0) (by refine cc _ ?_<|cc _ ?_<|cc _ ?_<|cc _ ?_<|cc _ ?_<|cc _ ?_<|cc _ ?_ c0<;>(intros;simp_all;done)) ?_;refine Ad (RK wR [(.bool b3)] ?_);subst hb3 hb2 hb1;refine Same.of_eq ?_;simp only[Ag];congr 1;unfold Cf;rw[Bool.eq_iff_iff];simp only[Bool.and_eq_true,Bool.or_eq_true,decide_eq_true_eq];omega
theorem Q0v (c:UInt8) :
  FnV prog 192 [(.int .u8 ((c.toNat:Int)))] (.bool (Bc c)):=by
 refine Ax [.tmp 2] func192 ntmps192 fun B F hF=>?_;refine Aa [] [0] ?_
 obtain⟨b1,hb1⟩:∃b,b=(decide (48≤(c.toNat:Int))):=⟨_,rfl⟩
 refine Ac (CS:=[(4,(b1=true→b1=true)),(5,(b1=true→b1=true))]) [6,7] [2] [] hk0 (vk 3 5 (a:=.bool (decide (48≤(c.toNat:Int)))) (b:=.bool b1) (Imp.of_eq (by rw[hb1]))<|v0) (by refine cc _ ?_<|cc _ ?_ c0<;>simp) ?_;refine Ad (RK wR [(.bool (b1&&(decide ((c.toNat:Int)≤57))))] ?_);subst hb1;refine Same.of_eq ?_;simp only[Ag];congr 1;unfold Bc;rw[Bool.eq_iff_iff];simp only[Bool.and_eq_true,Bool.or_eq_true,decide_eq_true_eq];omega
theorem inV (c:UInt8) (l:List UInt8) (hl:l.length≤4611686018427387904) :
  FnV prog 160 [(.int .u8 ((c.toNat:Int))),(.str l)] (.bool (l.contains c)):=by
 refine Ax [.tmp 4] func160 ntmps160 fun B F hF=>?_;refine Aa [] [0,1] ?_;refine Ab (Aa [] [0,1,5] ?_);refine Au (B4 (fun g y=>∃(k:Nat),k≤l.length∧l.contains c=(l.drop k).contains c∧y=⟨[(0,(.int .u8 ((c.toNat:Int)))),(1,(.str l)),(5,(.int .i64 ((k:Int))))],[],0⟩∧g=l.length-k) [0,1,5] 0 _ (by omega) ⟨0,(by omega),(by rfl),(by kernel_rfl),rfl⟩ ?_);rintro g1 y1 ⟨k,f1_1,f1_2,rfl,rfl⟩;refine Ab (Aa [] [0,1,5,9] ?_);refine A4 (p:=(k:Int) < (l.length:Int)) (fun c1=>?_) fun c1=>?_
 ·refine Ae (Ab ?_);refine Au (Ac [] [0,1,5,16] [] hk0 v0 (cc 2 (p:=(0≤(k:Int)∧k < l.length)) (by omega)<|c0) ?_);refine A4 (p:=((Af l k).toNat:Int)=(c.toNat:Int)) (fun c2=>?_) fun c2=>?_
  ·refine Aa [] [4] ?_;refine Ad (RK wR [(.bool true)] ?_);exact Same.of_eq (by rw[f1_2,Hv (by omega),show Af l k=c from UInt8.toNat_inj.1 (by omega)];simp[Ag])
  ·refine Ae ?_;refine Aj (An 0 [] [0,1,5] [] hk0 v0 (cc 1 (p:=(-9223372036854775808≤(k:Int)+1∧(k:Int)+1≤9223372036854775807)) (by omega)<|c0) ?_);refine⟨by kernel_rfl,_,?_,k+1,?_,?_,(by kernel_rfl),rfl⟩
   ·omega
   ·omega
   ·rw[f1_2,Hv (by omega),List.contains_cons];have:¬c=Af l k:=fun e=>c2 (by rw[e]);simp[this]
 ·refine Br (Aa [] [4] ?_);refine Ad (RK wR [(.bool false)] ?_);exact Same.of_eq (by rw[f1_2,List.drop_of_length_le (by omega)];rfl)
theorem X2f (l:List UInt8) (hl:l.length≤4611686018427387904) :
  FnV prog 158 [(.str l)] (.bool (l.all F8&&(decide (1≤l.length)&&decide (l.length≤60)))):=by
 refine Ax [.tmp 2] func158 ntmps158 fun B F hF=>?_;refine Aa [] [0] ?_;refine Ab (Aa [] [0,3] ?_);refine Au (B4 (fun g y=>∃(k:Nat),k≤l.length∧(l.take k).all F8=true∧y=⟨[(0,(.str l)),(3,(.int .i64 ((k:Int))))],[],0⟩∧g=l.length-k) [0,3] 0 _ (by omega) ⟨0,(by omega),(by rfl),(by kernel_rfl),rfl⟩ ?_);rintro g1 y1 ⟨k,f1_1,f1_2,rfl,rfl⟩;refine Ab (Aa [] [0,3,9] ?_);refine A4 (p:=(k:Int) < (l.length:Int)) (fun c1=>?_) fun c1=>?_
 ·refine Ae (Ab ?_);refine Au (Ac [] [0,3,4] [] (hk 3 Y0g (X2g (Af l k))<|hk0) v0 (cc 2 (p:=(0≤(k:Int)∧k < l.length)) (by omega)<|c0) ?_);refine Ac [] [0,3,4,5] [] (hk 3 Q5x (Q0v (Af l k))<|hk0) v0 (cc 2 (p:=(0≤(k:Int)∧k < l.length)) (by omega)<|c0) ?_
  obtain⟨b1,hb1⟩:∃b,b=(!(Cf (Af l k))):=⟨_,rfl⟩
  obtain⟨b2,hb2⟩:∃b,b=(b1&&(!(Bc (Af l k)))):=⟨_,rfl⟩
  refine Ac (CS:=[(4,(b1=true→b1=true)),(5,(b1=true→b1=true)),(9,(b2=true→(b2=true∧b2=true)∧(0≤(k:Int)∧k < l.length))),(10,b2=true→b2=true),(11,(b2=true→b2=true)),(12,(b2=true→b2=true))]) [23,24,27,28,29,31] [0,3,32] [] (hkg 10 b2 Q57 (fun cg=>inV (Af l k) midL (by decide))<|hk0) (vk 3 22 (a:=.bool (!(Cf (Af l k)))) (b:=.bool b1) (Imp.of_eq (by rw[hb1]))<|vk 7 26 (a:=.bool (b1&&(!(Bc (Af l k))))) (b:=.bool b2) (Imp.of_eq (by rw[hb2]))<|v0) (by refine cc _ ?_<|cc _ ?_<|cc _ ?_<|cc _ ?_<|cc _ ?_<|cc _ ?_ c0<;>(intros;simp_all;done)) ?_;refine A7 (q:=b2&&(!(midL.contains (Af l k)))) (fun c2=>?_) fun c2=>?_
  ·subst hb2 hb1
   try simp only[Aq] at c2
   refine Aa [] [2] ?_;refine Ad (RK wR [(.bool false)] ?_);exact Same.of_eq (by simp only[Ag];rw[Yh (p:=F8) (k:=k) (by omega) (by show(Bc _||(Cf _||_))=false;simp_all)];rfl)
  ·subst hb2 hb1
   try simp only[Aq] at c2
   refine Ae ?_;refine Aj (An 0 [] [0,3] [] hk0 v0 (cc 1 (p:=(-9223372036854775808≤(k:Int)+1∧(k:Int)+1≤9223372036854775807)) (by omega)<|c0) ?_);refine⟨by kernel_rfl,_,?_,k+1,?_,?_,(by kernel_rfl),rfl⟩
   ·omega
   ·omega
   ·refine Q6 (by omega) f1_2 ?_;show(Bc _||(Cf _||_))=true;simp only[Bool.or_eq_true];by_cases a1:Bc (Af l k)=true<;>by_cases a2:Cf (Af l k)=true<;>simp_all
 ·refine Br ?_
  obtain⟨b3,hb3⟩:∃b,b=(decide (1≤(l.length:Int))):=⟨_,rfl⟩
  refine Ac (CS:=[(5,(b3=true→b3=true)),(6,(b3=true→b3=true)),(7,(b3=true→b3=true))]) [37,38,39] [2] [] hk0 (vk 4 36 (a:=.bool (decide (1≤(l.length:Int)))) (b:=.bool b3) (Imp.of_eq (by rw[hb3]))<|v0) (by refine cc _ ?_<|cc _ ?_<|cc _ ?_ c0<;>simp) ?_;refine Ad (RK wR [(.bool (b3&&(decide ((l.length:Int)≤60))))] ?_);subst hb3
  have hall:l.all F8=true:=by rw[List.take_of_length_le (by omega)] at f1_2;exact f1_2
  exact Same.of_eq (by simp only[Ag];rw[hall,show decide ((1:Int)≤(l.length:Int))=decide (1≤l.length) from decide_eq_decide.2 (by omega),show decide ((l.length:Int)≤60)=decide (l.length≤60) from decide_eq_decide.2 (by omega)];rfl)
theorem X2y (l:List UInt8) (hl:l.length≤4611686018427387904) :
  FnV prog 159 [(.str l)] (.bool (G9 l)):=by
 refine Ax [.tmp 2] func159 ntmps159 fun B F hF=>?_;refine Aa [] [0] ?_;refine Ab (Aa [] [0,3] ?_);refine Au (B4 (fun g y=>∃(k:Nat),k≤l.length∧(l.take k).all Ju=true∧y=⟨[(0,(.str l)),(3,(.int .i64 ((k:Int))))],[],0⟩∧g=l.length-k) [0,3] 0 _ (by omega) ⟨0,(by omega),(by rfl),(by kernel_rfl),rfl⟩ ?_);rintro g1 y1 ⟨k,f1_1,f1_2,rfl,rfl⟩;refine Ab (Aa [] [0,3,8] ?_);refine A4 (p:=(k:Int) < (l.length:Int)) (fun c1=>?_) fun c1=>?_
 ·refine Ae (Ab ?_);refine Au (Ac [] [0,3,4] [] (hk 3 Q5x (Q0v (Af l k))<|hk0) v0 (cc 2 (p:=(0≤(k:Int)∧k < l.length)) (by omega)<|c0) ?_);refine Aa [] [0,3,16] ?_;refine A7 (q:=!(Bc (Af l k))) (fun c2=>?_) fun c2=>?_
  ·try simp only[Aq] at c2
   refine Aa [] [2] ?_;refine Ad (RK wR [(.bool false)] ?_);exact Same.of_eq (by simp only[Ag];unfold G9;rw[Yh (p:=Ju) (k:=k) (by omega) (by show Bc _=false;simp_all)];rfl)
  ·try simp only[Aq] at c2
   refine Ae ?_;refine Aj (An 0 [] [0,3] [] hk0 v0 (cc 1 (p:=(-9223372036854775808≤(k:Int)+1∧(k:Int)+1≤9223372036854775807)) (by omega)<|c0) ?_);refine⟨by kernel_rfl,_,?_,k+1,?_,?_,(by kernel_rfl),rfl⟩
   ·omega
   ·omega
   ·refine Q6 (by omega) f1_2 ?_;show Bc _=true;simp_all
 ·refine Br ?_
  obtain⟨b1,hb1⟩:∃b,b=(decide (1≤(l.length:Int))):=⟨_,rfl⟩
  refine Ac (CS:=[(5,(b1=true→b1=true)),(6,(b1=true→b1=true)),(7,(b1=true→b1=true))]) [21,22,23] [2] [] hk0 (vk 4 20 (a:=.bool (decide (1≤(l.length:Int)))) (b:=.bool b1) (Imp.of_eq (by rw[hb1]))<|v0) (by refine cc _ ?_<|cc _ ?_<|cc _ ?_ c0<;>simp) ?_;refine Ad (RK wR [(.bool (b1&&(decide ((l.length:Int)≤9))))] ?_);subst hb1
  have hall:l.all Ju=true:=by rw[List.take_of_length_le (by omega)] at f1_2;exact f1_2
  exact Same.of_eq (by simp only[Ag];unfold G9;rw[hall,show decide ((1:Int)≤(l.length:Int))=decide (1≤l.length) from decide_eq_decide.2 (by omega),show decide ((l.length:Int)≤9)=decide (l.length≤9) from decide_eq_decide.2 (by omega)];rfl)
theorem Q0t (l:List UInt8) (hl:l.length≤4611686018427387904) :
  FnV prog 100 [(.str l)] (.tup [.agg [.str (C9 l).1,.str (C9 l).2.1,.str (C9 l).2.2],.int .i64 (Ch l)]):=by
 refine Ax [.cell 2 157,.tmp 3] func100 ntmps100 fun B F hF=>?_;refine Aa [] [0,2] (Ac [] [0,2,4] [] (hk 1 Y0t (X2f l hl)<|hk0) v0 c0 ?_);refine Ab (Aa [] [0,2,12] ?_);refine A7 (q:=!(Ho l)) (fun c1=>?_) fun c1=>?_
 ·try simp only[Aq] at c1
  refine Aa [] [2,3] (Ad ?_);refine RK wR [(.agg [(.str []),(.str []),(.str [])]),(.int .i64 30)] (Same.of_eq ?_);simp only[Ag];have h0:Ch l=30:=Q43 (by simpa using c1);have h1:C9 l=([],[],[]):=Ln h0.symm;rw[h0,h1]
 ·try simp only[Aq] at c1
  have hh:Ho l=true:=by simpa using c1
  refine Ae (Aa [] [0,2,5] ?_);refine Ev (fun y=>∃(r:List UInt8) (ep:List UInt8),r=(if 0≤Lib.indexByte l 58 then l.drop ((Lib.indexByte l 58).toNat+1) else l)∧ep=(if 0≤Lib.indexByte l 58 then l.take (Lib.indexByte l 58).toNat else [])∧(0≤Lib.indexByte l 58→G9 (l.take (Lib.indexByte l 58).toNat)=true)∧y=⟨[(0,(.str r)),(2,(.ptr 0 0)),(5,(.ptr 1 0))],[(0,(.row [(.str []),(.str []),(.str [])] 157)),(1,(.row [(.str ep),(.str []),(.str [])] 157))],2⟩) [0,2,5] 2 (by omega) ?_ ?_
  ·refine Aa [] [0,2,5,6] ?_;refine Au (B4 (fun g y=>∃(i:Nat),i≤l.length∧J5 l 58 i∧y=⟨[(0,(.str l)),(2,(.ptr 0 0)),(5,(.ptr 1 0)),(6,(.int .i64 ((i:Int))))],[(0,(.row [(.str []),(.str []),(.str [])] 157)),(1,(.row [(.str []),(.str []),(.str [])] 157))],2⟩∧g=l.length-i) [0,2,5,6] 2 _ (by omega) ⟨0,(by omega),(by exact X69 l 58),(by kernel_rfl),rfl⟩ ?_);rintro g1 y1 ⟨i,f1_1,f1_2,rfl,rfl⟩;refine Ab (Aa [] [0,2,5,6,17] ?_);refine A4 (p:=(i:Int) < (l.length:Int)) (fun c2=>?_) fun c2=>?_
   ·refine Ae ?_;refine Ab (Au ?_);refine Ab (Ac [] [0,2,5,6,23] [] hk0 v0 (cc 2 (p:=(0≤(i:Int)∧i < l.length)) (by omega)<|c0) ?_);refine C7 (p:=((Af l i).toNat:Int)=58) (fun c3=>?_) fun c3=>?_
    ·refine Br ?_;refine Aj (An 0 [] [0,2,5,6] [] hk0 v0 (cc 1 (p:=(-9223372036854775808≤(i:Int)+1∧(i:Int)+1≤9223372036854775807)) (by omega)<|c0) ?_);refine⟨by kernel_rfl,_,?_,i+1,?_,?_,(by kernel_rfl),rfl⟩
     ·omega
     ·omega
     ·exact X68 f1_2 (by omega) (fun e=>by rw[e] at c3;simp at c3)
    ·refine Ae (Ac [] [0,2,5,6,7] [] (hk 3 Y0s (X2y ((l.take i).drop 0) (by simp;omega))<|hk0) v0 (cc 2 (p:=(0≤(0:Int)∧(0:Int)≤(i:Int)∧(i:Int)≤(l.length:Int))) (by omega)<|c0) ?_);refine Ab (Aa [] [0,2,5,6,29] ?_);refine A7 (q:=!(G9 ((l.take i).drop 0))) (fun c4=>?_) fun c4=>?_
     ·try simp only[Aq] at c4
      refine Aa [] [2,3] (Ad ?_);refine RK wR [(.agg [(.str []),(.str []),(.str [])]),(.int .i64 30)] (Same.of_eq ?_);simp only[Ag];have h0:Ch l=30:=X8t (Q37 f1_2 (by omega) (UInt8.toNat_inj.1 (by show _=58;omega))) (by simpa using c4);have h1:C9 l=([],[],[]):=Ln h0.symm;rw[h0,h1]
     ·try simp only[Aq] at c4
      refine Ae (Ac [] [0,2,5,6] [] hk0 v0 (cc 2 (p:=(0≤(0:Int)∧(0:Int)≤(i:Int)∧(i:Int)≤(l.length:Int))) (by omega)<|c0) ?_);refine Ac (CS:=[(2,(-9223372036854775808≤(i:Int)+1∧(i:Int)+1≤9223372036854775807)),(3,(0≤(i:Int)+1∧(i:Int)+1≤(l.length:Int)∧(l.length:Int)≤(l.length:Int)))]) [] [0,2,5] [] hk0 v0 (by refine cc _ ?_<|cc _ ?_ c0<;>omega) ?_;refine Br ?_;refine⟨by kernel_rfl,((l.take l.length).drop (i+1)),((l.take i).drop 0),?_,?_,?_,(by kernel_rfl)⟩
      all_goals have hz:Lib.indexByte l 58=(i:Int):=Q37 f1_2 (by omega) (UInt8.toNat_inj.1 (by show _=58;omega))
      all_goals rw[hz]
      ·rw[if_pos (by omega),List.take_length,Int.toNat_natCast];try (congr 1;omega)
      ·rw[if_pos (by omega),Int.toNat_natCast];simp
      ·intro _;rw[Int.toNat_natCast];simpa using c4
   ·refine Br ?_;refine⟨by kernel_rfl,l,[],?_,?_,?_,(by kernel_rfl)⟩
    all_goals have hz:Lib.indexByte l 58 = -1:=X7a f1_2 (by omega)
    all_goals rw[hz]
    ·rw[if_neg (by omega)]
    ·rw[if_neg (by omega)]
    ·intro h;exact absurd h (by omega)
  ·rintro y1 ⟨r,ep,hr,hep,hdg,rfl⟩
   have hrl:r.length≤l.length:=by rw[hr];split<;>simp
   refine Aa [] [0,2,5] ?_;refine Ev (fun y=>∃(v:List UInt8) (rl:List UInt8),v=(if 0≤B7 r 45 r.length then r.take (B7 r 45 r.length).toNat else r)∧rl=(if 0≤B7 r 45 r.length then r.drop ((B7 r 45 r.length).toNat+1) else [])∧(0≤B7 r 45 r.length→¬rl=[])∧y=⟨[(0,(.str r)),(2,(.ptr 0 0)),(5,(.ptr 1 0))],[(0,(.row [(.str []),(.str []),(.str [])] 157)),(1,(.row [(.str ep),(.str v),(.str rl)] 157))],2⟩) [0,2,5] 2 (by omega) ?_ ?_
   ·refine Ac [] [0,2,5,8] [] hk0 v0 (cc 2 (p:=(-9223372036854775808≤(r.length:Int)-1∧(r.length:Int)-1≤9223372036854775807)) (by omega)<|c0) ?_;refine Au (B4 (fun g y=>∃(k:Nat),k≤r.length∧B7 r 45 r.length=B7 r 45 k∧y=⟨[(0,(.str r)),(2,(.ptr 0 0)),(5,(.ptr 1 0)),(8,(.int .i64 ((k:Int)-1)))],[(0,(.row [(.str []),(.str []),(.str [])] 157)),(1,(.row [(.str ep),(.str r),(.str [])] 157))],2⟩∧g=k+1) [0,2,5,8] 2 _ (by omega) ⟨r.length,(by omega),(by rfl),(by kernel_rfl),rfl⟩ ?_);rintro g2 y2 ⟨k,f2_1,f2_2,rfl,rfl⟩;refine Ab (Aa [] [0,2,5,8,45] ?_);refine A4 (p:=0≤((k:Int)-1)) (fun c5=>?_) fun c5=>?_
    ·refine Ae (Ab ?_);refine Au (Ac [] [0,2,5,8,51] [] hk0 v0 (cc 2 (p:=(0≤(k:Int)-1∧((k:Int)-1).toNat < r.length)) (by omega)<|c0) ?_);refine A4 (p:=((Af r (((k:Int)-1).toNat)).toNat:Int)=45) (fun c6=>?_) fun c6=>?_
     ·have hk1:((k:Int)-1).toNat=k-1:=by omega
      rw[hk1] at c6;refine Ac [] [0,2,5,8] [] hk0 v0 (cc 2 (p:=(0≤(0:Int)∧(0:Int)≤(k:Int)-1∧(k:Int)-1≤(r.length:Int))) (by omega)<|c0) ?_;refine Ac (CS:=[(2,(-9223372036854775808≤((k:Int)-1)+1∧((k:Int)-1)+1≤9223372036854775807)),(3,(0≤((k:Int)-1)+1∧((k:Int)-1)+1≤(r.length:Int)∧(r.length:Int)≤(r.length:Int)))]) [] [0,2,5] [] hk0 v0 (by refine cc _ ?_<|cc _ ?_ c0<;>omega) ?_;refine Ab (Aa [] [0,2,5,63] ?_);refine A4 (p:=(r.take r.length).drop ((((k:Int)-1)+1).toNat)=[]) (fun c7=>?_) fun c7=>?_
      ·refine Aa [] [2,3] (Ad ?_);refine RK wR [(.agg [(.str []),(.str []),(.str [])]),(.int .i64 30)] (Same.of_eq ?_);simp only[Ag]
       have h0:Ch l=30:=by
        have hy:B7 r 45 r.length=((k-1:Nat):Int):=by rw[f2_2,Qd (by omega),if_pos (UInt8.toNat_inj.1 (by show _=45;omega))]
        exact Q40 hh hr hdg (by omega) (by rw[hy,Int.toNat_natCast,←c7];simp;congr 1;omega)
       have h1:C9 l=([],[],[]):=Ln h0.symm;rw[h0,h1]
      ·refine Ae (Br ?_);refine⟨by kernel_rfl,((r.take (((k:Int)-1).toNat)).drop 0),((r.take r.length).drop ((((k:Int)-1)+1).toNat)),?_,?_,?_,(by kernel_rfl)⟩
       all_goals have hy:B7 r 45 r.length=((k-1:Nat):Int):=by rw[f2_2,Qd (by omega),if_pos (UInt8.toNat_inj.1 (by show _=45;omega))]
       all_goals rw[hy]
       ·rw[if_pos (by omega),Int.toNat_natCast];simp;try (congr 1;omega)
       ·rw[if_pos (by omega),Int.toNat_natCast];simp;try (congr 1;omega)
       ·exact fun _=>c7
     ·have hk1:((k:Int)-1).toNat=k-1:=by omega
      rw[hk1] at c6;refine Ae ?_;refine Aj (An 0 [] [0,2,5,8] [] hk0 v0 (cc 1 (p:=(-9223372036854775808≤((k:Int)-1)-1∧((k:Int)-1)-1≤9223372036854775807)) (by omega)<|c0) ?_);refine⟨by kernel_rfl,_,?_,(k-1),?_,?_,(Eq.trans (b:=(⟨[(0,(.str r)),(2,(.ptr 0 0)),(5,(.ptr 1 0)),(8,(.int .i64 (((k:Int)-1)-1)))],[(0,(.row [(.str []),(.str []),(.str [])] 157)),(1,(.row [(.str ep),(.str r),(.str [])] 157))],2⟩:St)) (by kernel_rfl) (by rw[show(k:Int)-1-1=((k-1:Nat):Int)-1 from by omega])),rfl⟩
      ·omega
      ·omega
      ·rw[f2_2,Qd (by omega),if_neg (fun e=>c6 (by rw[e];rfl))]
    ·refine Br ?_;refine⟨by kernel_rfl,r,[],?_,?_,?_,(by kernel_rfl)⟩
     all_goals have hy:B7 r 45 r.length = -1:=by rw[f2_2,show k=0 by omega];rfl
     all_goals rw[hy]
     ·rw[if_neg (by omega)]
     ·rw[if_neg (by omega)]
     ·intro h;exact absurd h (by omega)
   ·rintro y2 ⟨v,rl,hv,hrr,hnn,rfl⟩;refine Ab ?_
    obtain⟨b1,hb1⟩:∃b,b=(decide (v=[])):=⟨_,rfl⟩
    refine Ac (CS:=[(5,(!b1)=true→(!b1)=true),(6,(b1=false→(!b1)=true))]) [69] [2,5,71] [] (hkg 5 (!b1) Q57 (fun cg=>inV 58 r (by omega))<|hk0) (vk 4 68 (a:=.bool (decide (v=[]))) (b:=.bool b1) (Imp.of_eq (by rw[hb1]))<|v0) (by refine cc _ ?_<|cc _ ?_ c0<;>simp) ?_;refine A7 (q:=b1||(r.contains 58)) (fun c8=>?_) fun c8=>?_
    ·subst hb1
     try simp only[Aq] at c8
     refine Aa [] [2,3] (Ad ?_);refine RK wR [(.agg [(.str []),(.str []),(.str [])]),(.int .i64 30)] (Same.of_eq ?_);simp only[Ag]
     have h0:Ch l=30:=by rw[(Tx hh hr hep hdg hv hrr hnn).1,if_pos (by simpa using c8)]
     have h1:C9 l=([],[],[]):=Ln h0.symm;rw[h0,h1]
    ·subst hb1
     try simp only[Aq] at c8
     refine Ae (Aa [] [2,3] ?_);refine Ad (RK wR [(.agg [(.str ep),(.str v),(.str rl)]),(.int .i64 0)] ?_);have hf:=Tx hh hr hep hdg hv hrr hnn
     have h0:Ch l=0:=by rw[hf.1,if_neg (by simpa using c8)]
     exact Same.of_eq (by simp only[Ag];rw[Q41 h0.symm,hf.2,h0])
end
end Sv
section
open Go Go.RowKit
structure PkgT where
 name:List UInt8
 evr:List UInt8
 arch:List UInt8
 vendor:List UInt8
 provides:List DepT
 requires:List DepT
 pre:List DepT
 conflicts:List DepT
 obsoletes:List DepT
 recommends:List DepT
 supplements:List DepT
 files:List (List UInt8)
 deriving Inhabited
structure RepoT where
 name:List UInt8
 prio:Int
 inst:Bool
 pkgs:List PkgT
 deriving Inhabited
def PkgT.depSize (p:PkgT):Nat:=argsSize p.provides+argsSize p.requires+argsSize p.pre+argsSize p.conflicts+argsSize p.obsoletes+argsSize p.recommends+argsSize p.supplements
def Ij:List (List UInt8)→Nat
 |[]=>0
 |x::r=>1+x.length+Ij r
theorem Mx:∀l:List (List UInt8),l.length≤Ij l
 |[]=>Nat.zero_le _
 |x::r=>by have:=Mx r;simp only[Ij,List.length_cons];omega
theorem Xa:∀{l:List (List UInt8)} {i:Nat},i < l.length→(nth l i).length≤Ij l
 |[],_,h=>by simp at h
 |x::r,0,_=>by simp only[Ij];show x.length≤_;omega
 |x::r,i+1,h=>by
  have:=Xa (l:=r) (i:=i) (by simpa using h);simp only[Ij];show(nth r i).length≤_;omega
def PkgT.size (p:PkgT):Nat:=1+p.name.length+p.evr.length+p.arch.length+p.vendor.length+p.depSize+Ij p.files
theorem PkgT.sizes (p:PkgT):p.name.length≤p.size∧p.evr.length≤p.size∧p.arch.length≤p.size∧p.vendor.length≤p.size∧p.depSize≤p.size∧Ij p.files≤p.size:=by
 unfold PkgT.size;omega
namespace Sv
noncomputable def A1 (p:PkgT):AV:=.agg [.str p.name,.str p.evr,.str p.arch,.str p.vendor,D0 p.provides,D0 p.requires,D0 p.pre,D0 p.conflicts,D0 p.obsoletes,D0 p.recommends,D0 p.supplements,Dc p.files]
noncomputable def Bp (r:RepoT):AV:=.agg [.str r.name,.int .i64 r.prio,.bool r.inst,Ak 12 A1 r.pkgs]
theorem X1e {α β:Type} [Inhabited α] (f:α→β) (l:List α) (i:Nat):(l.map f).set i (f (nth l i))=l.map f:=by
 refine List.ext_getElem? fun j=>?_;rw[List.getElem?_set];by_cases h:i=j
 ·subst h;by_cases hi:i < l.length
  ·simp[hi,nth]
  ·rw[if_pos rfl,if_neg (by simpa using hi),List.getElem?_eq_none (by simpa using hi)]
 ·rw[if_neg h]
theorem Tl {α β:Type} [Inhabited α] (f:α→β) {l:List α} {i:Nat} (h:i < l.length):(l.map f)[i]? = some (f (nth l i)):=by simp[nth,h]
theorem Ir (d:DepT):argsSize d.args+1+d.name.length+d.evr.length=d.size:=by cases d;simp only[DepT.size,DepT.args,DepT.name,DepT.evr]
theorem Fa:∀l:List DepT,l.length≤argsSize l
 |[]=>Nat.zero_le _
 |d::r=>by
  have:=Fa r
  have:1≤d.size:=by cases d;simp only[DepT.size];omega
  simp only[argsSize,List.length_cons];omega
theorem Q7r {l:List DepT} {i:Nat} (h:i < l.length):argsSize (nth l i).args < argsSize l:=by
 have h1:=Jz (l:=l) (i:=i) h;have h2:=Ir (nth l i);omega
theorem Sl {α β:Type} [Inhabited α] {l:List α} (f:α→β):(List.range l.length).map (fun k=>f (nth l k))=l.map f:=by
 refine List.ext_getElem (by simp) fun j h1 h2=>?_;simp only[List.length_map,List.length_range] at h1;simp[nth,h1]
theorem Q10 {α:Type} [Inhabited α] (f:α→AV) (l:List α):([]:List AV)++(List.range l.length).map (fun k=>f (nth l k))=l.map f:=by rw[List.nil_append,Sl]
end Sv
end
namespace Sv
section
attribute [local irreducible] SW SO Bk
def Ei {α:Type} (p:α→Bool):List α→Int
 |[] => -1
 |x::r=>if p x then 0 else if Ei p r < 0 then -1 else Ei p r+1
theorem Lk {α:Type} [Inhabited α] {p:α→Bool}:∀{l:List α} {i:Nat},i < l.length→(∀j,j < i→p (nth l j)=false)→p (nth l i)=true→Ei p l=(i:Int)
 |[],_,h,_,_=>by simp at h
 |x::r,0,_,_,h=>by
  have:p x=true:=h;simp[Ei,this]
 |x::r,i+1,hi,h,hp=>by
  have h0:p x=false:=h 0 (by omega);have:=Lk (l:=r) (i:=i) (by simpa using hi) (fun j hj=>h (j+1) (by omega)) hp;unfold Ei;rw[if_neg (by simp[h0]),this,if_neg (by omega)];omega
theorem Lj {α:Type} [Inhabited α] {p:α→Bool}:∀{l:List α},(∀j,j < l.length→p (nth l j)=false)→Ei p l = -1
 |[],_=>rfl
 |x::r,h=>by
  have h0:p x=false:=h 0 (by simp);have:=Lj (l:=r) (fun j hj=>h (j+1) (by simpa using hj));unfold Ei;rw[if_neg (by simp[h0]),this];rfl
theorem Ll {α:Type} (p:α→Bool):∀l:List α,decide (0≤Ei p l)=l.any p
 |[]=>rfl
 |x::r=>by
  have:=Ll p r;unfold Ei;rw[List.any_cons,←this];split
  ·rename_i h;simp[h]
  ·rename_i h
   have h':p x=false:=by simpa using h
   rw[h',Bool.false_or];split
   ·rename_i h2;rw[decide_eq_false (by omega),decide_eq_false (by omega)]
   ·rename_i h2;rw[decide_eq_true (by omega),decide_eq_true (by omega)]
theorem Tt {d:DepT} (h:d.kind=1):Cu d=I0 d.name d.op d.evr d.args.length:=by cases d;unfold Cu;exact if_pos h
theorem Mw {d:DepT} (h:¬d.kind=1):Cu d=(!Hr d.kind d.name d.op d.evr d.args.length&&argsForm d.kind d.args):=by cases d;unfold Cu;exact if_neg h
theorem X3q {d:DepT} (h:d.kind=1):El d=1:=by cases d;unfold El;exact if_pos h
theorem X3r {d:DepT} (h:¬d.kind=1):El d=argsParts d.args:=by cases d;unfold El;exact if_neg h
theorem X4t (d:DepT):F7 d=(if d.kind=1 then 1 else 0)+argsNames d.args:=by cases d;unfold F7;rfl
theorem X40 (k:Int):(Bj [((4:Int),(3:Int)),(6,2)] k).getD 0=Fs k:=by
 have:=X4z k;have e:Es (Es ([]:List (Int × Int)) 4 3) 6 2=[(4,3),(6,2)]:=rfl;rw[e] at this;cases h:Bj [((4:Int),(3:Int)),(6,2)] k<;>simp_all
theorem Y10 (l:List DepT) (a:AV) (p:DepT→Bool) (hl:l.length≤4611686018427387904) (ha:∀i,i < l.length→FunV prog a [(.agg [(.int .i64 ((nth l i).kind)),(.str ((nth l i).name)),(.int .i64 ((nth l i).op)),(.str ((nth l i).evr)),(.row 5 (nth l i).args.length (depAt (nth l i).args))])] (.bool (p (nth l i)))) :
  FnV prog 220 [(Ak 5 Aw l),(.clo a)] (.int .i64 (Ei p l)):=by
 refine Ax [.tmp 4] func220 ntmps220 fun B F hF=>?_;refine Aa [] [0,1] ?_;refine Ab (Aa [] [0,1,7,8] ?_);refine Au (B4 (fun g y=>∃(i:Nat),i≤l.length∧(∀j,j < i→p (nth l j)=false)∧y=⟨[(0,(Ak 5 Aw l)),(1,(.clo a)),(7,(.int .i64 ((l.length:Int)))),(8,(.int .i64 ((i:Int))))],[],0⟩∧g=l.length-i) [0,1,7,8] 0 _ (by omega) ⟨0,(by omega),(by exact fun j hj=>by omega),(by kernel_rfl),rfl⟩ ?_);rintro g1 y1 ⟨i,f1_1,f1_2,rfl,rfl⟩;refine Aa [] [0,1,7,8,9] (Ab ?_);refine A4 (p:=(i:Int) < (l.length:Int)) (fun c1=>?_) fun c1=>?_
 ·refine Ae ?_;refine Ab (Au ?_);refine Aa [] [0,1,5,7,8] (Ab ?_);refine Aj (A9 5 0 [] [0,1,5,7,8,11,15] [] hk0 v0 (cc 3 (p:=(0≤(i:Int)∧i < l.length)) (by omega)<|c0) ?_);refine Fc (a:=(.clo a)) (al:=[(.agg [(.int .i64 ((nth l i).kind)),(.str ((nth l i).name)),(.int .i64 ((nth l i).op)),(.str ((nth l i).evr)),(.row 5 (nth l i).args.length (depAt (nth l i).args))])]) (r:=(.bool (p (nth l i)))) (by kernel_rfl) (by kernel_rfl) (by kernel_rfl) (by kernel_rfl) (by kernel_rfl) ((ha i (by omega)).clo) pS (Bd ?_);refine A7 (q:=p (nth l i)) (fun c2=>?_) fun c2=>?_
  ·refine Aa [] [4] ?_;refine Ad (RK wR [(.int .i64 ((i:Int)))] ?_);exact Same.of_eq (by rw[Lk (by omega) f1_2 (by simp_all)];rfl)
  ·refine Ae ?_;refine Aj (An 0 [] [0,1,7,8] [] hk0 v0 (cc 0 (p:=(-9223372036854775808≤(i:Int)+1∧(i:Int)+1≤9223372036854775807)) (by omega)<|c0) ?_);refine⟨by kernel_rfl,_,?_,i+1,?_,?_,(by kernel_rfl),rfl⟩
   ·omega
   ·omega
   ·intro j hj;by_cases h:j=i
    ·subst h;simp_all
    ·exact f1_2 j (by omega)
 ·refine Br (Aa [] [4] ?_);refine Ad (RK wR [(.int .i64 (-1))] ?_);exact Same.of_eq (by rw[Lj (fun j hj=>f1_2 j (by omega))];rfl)
theorem Y11 (l:List DepT) (a:AV) (p:DepT→Bool) (hl:l.length≤4611686018427387904) (ha:∀i,i < l.length→FunV prog a [(.agg [(.int .i64 ((nth l i).kind)),(.str ((nth l i).name)),(.int .i64 ((nth l i).op)),(.str ((nth l i).evr)),(.row 5 (nth l i).args.length (depAt (nth l i).args))])] (.bool (p (nth l i)))) :
  FnV prog 197 [(Ak 5 Aw l),(.clo a)] (.bool (l.any p)):=by
 refine Ax [.tmp 4] func197 ntmps197 fun B F hF=>?_;refine Aa [] [0,1] (Ac [] [4] [] (hk 2 X93 (Y10 l a p hl ha)<|hk0) v0 c0 ?_);refine Ad (RK wR [(.bool (decide (0≤(Ei p l))))] ?_);exact Same.of_eq (by simp only[Ag];rw[Ll])
theorem X70 (a d:DepT) (ih:FnV prog 169 [Aw a] (.bool (Cu a))) :
  FnV prog 198 [(.agg [(.int .i64 a.kind),(.str a.name),(.int .i64 a.op),(.str a.evr),(.row 5 a.args.length (depAt a.args))]),(.fp (.agg [(.int .i64 d.kind),(.str d.name),(.int .i64 d.op),(.str d.evr),(.row 5 d.args.length (depAt d.args))]))] (.bool (Om d.kind a)):=by
 refine Ax [.tmp 3] func198 ntmps198 fun B F hF=>?_;refine Ac [] [1,2] [(1,2)] hk0 v0 c0 ?_
 obtain⟨b1,hb1⟩:∃b,b=(decide (a.kind=1)):=⟨_,rfl⟩
 obtain⟨b2,hb2⟩:∃b,b=(b1||(decide (a.kind=5))):=⟨_,rfl⟩
 refine Ac (CS:=[(5,((!b1)=true→(!b1)=true)),(6,((!b1)=true→(!b1)=true)),(7,(b1=false→(!b1)=true)),(10,((!b2)=true→(!b2)=true)),(11,((!b2)=true→(!b2)=true)),(12,(b2=false→(!b2)=true))]) [9,10,11,14,15,16] [1,2,4] [] hk0 (vk 4 8 (a:=.bool (decide (a.kind=1))) (b:=.bool b1) (Imp.of_eq (by rw[hb1]))<|vk 9 13 (a:=.bool (b1||(decide (a.kind=5)))) (b:=.bool b2) (Imp.of_eq (by rw[hb2]))<|v0) (by refine cc _ ?_<|cc _ ?_<|cc _ ?_<|cc _ ?_<|cc _ ?_<|cc _ ?_ c0<;>simp) ?_
 obtain⟨b3,hb3⟩:∃b,b=(decide (5≤d.kind)):=⟨_,rfl⟩
 obtain⟨b4,hb4⟩:∃b,b=(b3&&(!(b2||(decide (a.kind=6))))):=⟨_,rfl⟩
 refine Ac (CS:=[(5,(b3=true→b3=true)),(6,(b3=true→b3=true)),(9,(!b4)=true→(!b4)=true),(10,((!b4)=true→(!b4)=true)),(11,(b4=false→(!b4)=true))]) [22,23,26,28] [3] [] (hkg 9 (!b4) Q55 (fun cg=>ih)<|hk0) (vk 4 21 (a:=.bool (decide (5≤d.kind))) (b:=.bool b3) (Imp.of_eq (by rw[hb3]))<|vk 8 25 (a:=.bool (b3&&(!(b2||(decide (a.kind=6)))))) (b:=.bool b4) (Imp.of_eq (by rw[hb4]))<|v0) (by refine cc _ ?_<|cc _ ?_<|cc _ ?_<|cc _ ?_<|cc _ ?_ c0<;>simp) ?_;refine Ad (RK wR [(.bool (b4||(!(Cu a))))] ?_);subst hb4 hb3 hb2 hb1;refine Same.of_eq ?_;simp only[Ag];congr 1;unfold Om Kj;rw[Bool.eq_iff_iff];simp only[Bool.and_eq_true,Bool.or_eq_true,Bool.not_eq_true',Bool.and_eq_false_iff,Bool.or_eq_false_iff,decide_eq_true_eq,decide_eq_false_iff_not];cases Cu a<;>simp<;>omega
theorem X72 (d:DepT) (hs:d.size≤4194304) (ih:∀i,i < d.args.length→FnV prog 169 [Aw (nth d.args i)] (.bool (Cu (nth d.args i)))) :
  FnV prog 169 [(.agg [(.int .i64 d.kind),(.str d.name),(.int .i64 d.op),(.str d.evr),(.row 5 d.args.length (depAt d.args))])] (.bool (Cu d)):=by
 have hda:=Ir d;have hal:=Fa d.args;refine Ax [.tmp 2] func169 ntmps169 fun B F hF=>?_;refine Ac [] [1] [(1,1)] hk0 v0 c0 ?_;refine Ab (Aa [] [1,8] ?_);refine A4 (p:=d.kind=1) (fun c1=>?_) fun c1=>?_
 ·refine Ac [] [1,4] [(8,3)] (hk 2 Qt (Ty d.evr (by omega))<|hk0) v0 c0 ?_
  obtain⟨b1,hb1⟩:∃b,b=((Bh d.name)&&(decide ((d.args.length:Int)=0))):=⟨_,rfl⟩
  obtain⟨b2,hb2⟩:∃b,b=(b1&&(((decide (d.op=0))&&(decide (d.evr=[])))||(((decide (1≤d.op))&&(decide (d.op≤7)))&&(decide ((Ch d.evr)=0))))):=⟨_,rfl⟩
  have qh1:(((Bh d.name)=true→(Bh d.name)=true))∧(((Bh d.name)=true→(Bh d.name)=true))∧(((Bh d.name)=true→(Bh d.name)=true))∧(((Bh d.name)=true→(Bh d.name)=true))∧((b1=true→b1=true))∧((b1=true→b1=true))∧((b1=true→b1=true))∧(((b1&&(decide (d.op=0)))=true→(b1&&(decide (d.op=0)))=true))∧(((b1&&(decide (d.op=0)))=true→(b1&&(decide (d.op=0)))=true))∧((b1=true→(b1=true)∧((decide (d.op=0))=true→(b1&&(decide (d.op=0)))=true)))∧((b1=true→b1=true))∧(((b1&&(!((decide (d.op=0))&&(decide (d.evr=[])))))=true→(b1&&(!((decide (d.op=0))&&(decide (d.evr=[])))))=true))∧(((b1&&(!((decide (d.op=0))&&(decide (d.evr=[])))))=true→(b1&&(!((decide (d.op=0))&&(decide (d.evr=[])))))=true))∧(((b1&&(!((decide (d.op=0))&&(decide (d.evr=[])))))=true→(b1&&(!((decide (d.op=0))&&(decide (d.evr=[])))))=true))∧((((b1&&(!((decide (d.op=0))&&(decide (d.evr=[])))))&&(decide (1≤d.op)))=true→((b1&&(!((decide (d.op=0))&&(decide (d.evr=[])))))&&(decide (1≤d.op)))=true))∧((((b1&&(!((decide (d.op=0))&&(decide (d.evr=[])))))&&(decide (1≤d.op)))=true→((b1&&(!((decide (d.op=0))&&(decide (d.evr=[])))))&&(decide (1≤d.op)))=true))∧(((b1&&(!((decide (d.op=0))&&(decide (d.evr=[])))))=true→((b1&&(!((decide (d.op=0))&&(decide (d.evr=[])))))=true)∧((decide (1≤d.op))=true→((b1&&(!((decide (d.op=0))&&(decide (d.evr=[])))))&&(decide (1≤d.op)))=true)))∧(((b1&&(!((decide (d.op=0))&&(decide (d.evr=[])))))=true→(b1&&(!((decide (d.op=0))&&(decide (d.evr=[])))))=true))∧((((b1&&(!((decide (d.op=0))&&(decide (d.evr=[])))))&&((decide (1≤d.op))&&(decide (d.op≤7))))=true→((b1&&(!((decide (d.op=0))&&(decide (d.evr=[])))))&&((decide (1≤d.op))&&(decide (d.op≤7))))=true))∧(((b1&&(!((decide (d.op=0))&&(decide (d.evr=[])))))=true→((b1&&(!((decide (d.op=0))&&(decide (d.evr=[])))))=true)∧(((decide (1≤d.op))&&(decide (d.op≤7)))=true→((b1&&(!((decide (d.op=0))&&(decide (d.evr=[])))))&&((decide (1≤d.op))&&(decide (d.op≤7))))=true)))∧((b1=true→(b1=true)∧(((decide (d.op=0))&&(decide (d.evr=[])))=false→(b1&&(!((decide (d.op=0))&&(decide (d.evr=[])))))=true)))∧((b1=true→b1=true)):=by
   first|omega|(simp;omega)|(simp;done)|(intros;simp_all;omega)|(intros;simp_all;done)|(intros;simp_all;by_cases h:d.op=0<;>simp_all)
  refine Ac [19,20,21,22,25,26,27,28,29,30,31,32,33,34,35,36,37,38,39,40,41,42,43,44,45,46] [2] [] (hk 2 Lr (Pd d.name (by omega))<|hk0) (vk 9 23 (a:=.bool ((Bh d.name)&&(decide ((d.args.length:Int)=0)))) (b:=.bool b1) (Imp.of_eq (by rw[hb1]))<|vk 33 47 (a:=.bool (b1&&(((decide (d.op=0))&&(decide (d.evr=[])))||(((decide (1≤d.op))&&(decide (d.op≤7)))&&(decide ((Ch d.evr)=0)))))) (b:=.bool b2) (Imp.of_eq (by rw[hb2]))<|v0) (cc 5 (p:=((Bh d.name)=true→(Bh d.name)=true)) qh1.1<|cc 6 (p:=((Bh d.name)=true→(Bh d.name)=true)) qh1.2.1<|cc 7 (p:=((Bh d.name)=true→(Bh d.name)=true)) qh1.2.2.1<|cc 8 (p:=((Bh d.name)=true→(Bh d.name)=true)) qh1.2.2.2.1<|cc 11 (p:=(b1=true→b1=true)) qh1.2.2.2.2.1<|cc 12 (p:=(b1=true→b1=true)) qh1.2.2.2.2.2.1<|cc 13 (p:=(b1=true→b1=true)) qh1.2.2.2.2.2.2.1<|cc 15 (p:=((b1&&(decide (d.op=0)))=true→(b1&&(decide (d.op=0)))=true)) qh1.2.2.2.2.2.2.2.1<|cc 16 (p:=((b1&&(decide (d.op=0)))=true→(b1&&(decide (d.op=0)))=true)) qh1.2.2.2.2.2.2.2.2.1<|cc 17 (p:=(b1=true→(b1=true)∧((decide (d.op=0))=true→(b1&&(decide (d.op=0)))=true))) qh1.2.2.2.2.2.2.2.2.2.1<|cc 18 (p:=(b1=true→b1=true)) qh1.2.2.2.2.2.2.2.2.2.2.1<|cc 20 (p:=((b1&&(!((decide (d.op=0))&&(decide (d.evr=[])))))=true→(b1&&(!((decide (d.op=0))&&(decide (d.evr=[])))))=true)) qh1.2.2.2.2.2.2.2.2.2.2.2.1<|cc 21 (p:=((b1&&(!((decide (d.op=0))&&(decide (d.evr=[])))))=true→(b1&&(!((decide (d.op=0))&&(decide (d.evr=[])))))=true)) qh1.2.2.2.2.2.2.2.2.2.2.2.2.1<|cc 22 (p:=((b1&&(!((decide (d.op=0))&&(decide (d.evr=[])))))=true→(b1&&(!((decide (d.op=0))&&(decide (d.evr=[])))))=true)) qh1.2.2.2.2.2.2.2.2.2.2.2.2.2.1<|cc 24 (p:=(((b1&&(!((decide (d.op=0))&&(decide (d.evr=[])))))&&(decide (1≤d.op)))=true→((b1&&(!((decide (d.op=0))&&(decide (d.evr=[])))))&&(decide (1≤d.op)))=true)) qh1.2.2.2.2.2.2.2.2.2.2.2.2.2.2.1<|cc 25 (p:=(((b1&&(!((decide (d.op=0))&&(decide (d.evr=[])))))&&(decide (1≤d.op)))=true→((b1&&(!((decide (d.op=0))&&(decide (d.evr=[])))))&&(decide (1≤d.op)))=true)) qh1.2.2.2.2.2.2.2.2.2.2.2.2.2.2.2.1<|cc 26 (p:=((b1&&(!((decide (d.op=0))&&(decide (d.evr=[])))))=true→((b1&&(!((decide (d.op=0))&&(decide (d.evr=[])))))=true)∧((decide (1≤d.op))=true→((b1&&(!((decide (d.op=0))&&(decide (d.evr=[])))))&&(decide (1≤d.op)))=true))) qh1.2.2.2.2.2.2.2.2.2.2.2.2.2.2.2.2.1<|cc 27 (p:=((b1&&(!((decide (d.op=0))&&(decide (d.evr=[])))))=true→(b1&&(!((decide (d.op=0))&&(decide (d.evr=[])))))=true)) qh1.2.2.2.2.2.2.2.2.2.2.2.2.2.2.2.2.2.1<|cc 29 (p:=(((b1&&(!((decide (d.op=0))&&(decide (d.evr=[])))))&&((decide (1≤d.op))&&(decide (d.op≤7))))=true→((b1&&(!((decide (d.op=0))&&(decide (d.evr=[])))))&&((decide (1≤d.op))&&(decide (d.op≤7))))=true)) qh1.2.2.2.2.2.2.2.2.2.2.2.2.2.2.2.2.2.2.1<|cc 30 (p:=((b1&&(!((decide (d.op=0))&&(decide (d.evr=[])))))=true→((b1&&(!((decide (d.op=0))&&(decide (d.evr=[])))))=true)∧(((decide (1≤d.op))&&(decide (d.op≤7)))=true→((b1&&(!((decide (d.op=0))&&(decide (d.evr=[])))))&&((decide (1≤d.op))&&(decide (d.op≤7))))=true))) qh1.2.2.2.2.2.2.2.2.2.2.2.2.2.2.2.2.2.2.2.1<|cc 31 (p:=(b1=true→(b1=true)∧(((decide (d.op=0))&&(decide (d.evr=[])))=false→(b1&&(!((decide (d.op=0))&&(decide (d.evr=[])))))=true))) qh1.2.2.2.2.2.2.2.2.2.2.2.2.2.2.2.2.2.2.2.2.1<|cc 32 (p:=(b1=true→b1=true)) qh1.2.2.2.2.2.2.2.2.2.2.2.2.2.2.2.2.2.2.2.2.2<|c0) ?_
  refine Ad (RK wR [(.bool b2)] ?_);subst hb2 hb1;refine Same.of_eq ?_;simp only[Ag];rw[Tt c1,Q4m];congr 1;rw[Bool.eq_iff_iff];simp only[Bool.and_eq_true,Bool.or_eq_true,decide_eq_true_eq,and_assoc];rw[show((d.args.length:Int)=0)=(d.args.length=0) from propext (by omega)]
 ·refine Ae (Ab ?_);refine Aj (A9 1 0 [] [1,48] [] hk0 v0 c0 ?_);refine Q8v (b:=1) (k:=4) (a:=3) (c:=0) (es:=[]) (m:=[]) (by kernel_rfl) (by kernel_rfl) (by kernel_rfl) (by kernel_rfl) (by kernel_rfl) (by kernel_rfl) (by kernel_rfl) underlying243 underlying3 (Q8v (b:=1) (k:=6) (a:=2) (c:=1) (es:=[(.int .i64 4,.int .i64 3,0)]) (m:=[(4,3)]) (by kernel_rfl) (by kernel_rfl) (by kernel_rfl) (by kernel_rfl) (by kernel_rfl) (by kernel_rfl) (by kernel_rfl) underlying243 underlying3 ?_);refine A9 3 3 [] [1,49,51] [] hk0 v0 c0 (Y5j (b:=1) (c:=2) (es:=[(.int .i64 4,.int .i64 3,0),(.int .i64 6,.int .i64 2,1)]) (m:=[(4,3),(6,2)]) (by kernel_rfl) (by kernel_rfl) (by kernel_rfl) (by kernel_rfl) (by kernel_rfl) underlying243 underlying3 (fun _=>by kernel_rfl) (X40 d.kind) pS ?_);refine An 7 [] [1,5] [] hk0 v0 c0 (Ab ?_)
  obtain⟨b3,hb3⟩:∃b,b=(decide (d.kind < 2)):=⟨_,rfl⟩
  obtain⟨b4,hb4⟩:∃b,b=(b3||(decide (6 < d.kind))):=⟨_,rfl⟩
  obtain⟨b5,hb5⟩:∃b,b=(b4||(!decide (d.name=[]))):=⟨_,rfl⟩
  obtain⟨b6,hb6⟩:∃b,b=(b5||(!decide (d.op=0))):=⟨_,rfl⟩
  obtain⟨b7,hb7⟩:∃b,b=(b6||(!decide (d.evr=[]))):=⟨_,rfl⟩
  obtain⟨b8,hb8⟩:∃b,b=(b7||(decide ((d.args.length:Int) < 2))):=⟨_,rfl⟩
  refine Ac (CS:=[(5,((!b3)=true→(!b3)=true)),(6,((!b3)=true→(!b3)=true)),(7,(b3=false→(!b3)=true)),(10,((!b4)=true→(!b4)=true)),(11,((!b4)=true→(!b4)=true)),(12,(b4=false→(!b4)=true)),(15,((!b5)=true→(!b5)=true)),(16,((!b5)=true→(!b5)=true)),(17,(b5=false→(!b5)=true)),(20,((!b6)=true→(!b6)=true)),(21,((!b6)=true→(!b6)=true)),(22,(b6=false→(!b6)=true)),(25,((!b7)=true→(!b7)=true)),(26,((!b7)=true→(!b7)=true)),(27,((!b7)=true→(!b7)=true)),(28,(b7=false→(!b7)=true)),(31,((!b8)=true→(!b8)=true)),(32,((!b8)=true→(!b8)=true)),(34,(((!b8)&&(decide (0 < (Fs d.kind))))=true→((!b8)&&(decide (0 < (Fs d.kind))))=true)),(35,(((!b8)&&(decide (0 < (Fs d.kind))))=true→((!b8)&&(decide (0 < (Fs d.kind))))=true)),(37,(((!b8)&&(decide (0 < (Fs d.kind))))=true→((!b8)&&(decide (0 < (Fs d.kind))))=true∧((!b8)&&(decide (0 < (Fs d.kind))))=true)),(38,((!b8)=true→((!b8)=true)∧((decide (0 < (Fs d.kind)))=true→((!b8)&&(decide (0 < (Fs d.kind))))=true))),(39,(b8=false→(!b8)=true))]) [57,58,59,62,63,64,67,68,69,72,73,74,77,78,79,80,83,84,85,86,87,88,89,90,91] [1,92] [] hk0 (vk 4 56 (a:=.bool (decide (d.kind < 2))) (b:=.bool b3) (Imp.of_eq (by rw[hb3]))<|vk 9 61 (a:=.bool (b3||(decide (6 < d.kind)))) (b:=.bool b4) (Imp.of_eq (by rw[hb4]))<|vk 14 66 (a:=.bool (b4||(!decide (d.name=[])))) (b:=.bool b5) (Imp.of_eq (by rw[hb5]))<|vk 19 71 (a:=.bool (b5||(!decide (d.op=0)))) (b:=.bool b6) (Imp.of_eq (by rw[hb6]))<|vk 24 76 (a:=.bool (b6||(!decide (d.evr=[])))) (b:=.bool b7) (Imp.of_eq (by rw[hb7]))<|vk 30 82 (a:=.bool (b7||(decide ((d.args.length:Int) < 2)))) (b:=.bool b8) (Imp.of_eq (by rw[hb8]))<|v0) (by refine cc _ ?_<|cc _ ?_<|cc _ ?_<|cc _ ?_<|cc _ ?_<|cc _ ?_<|cc _ ?_<|cc _ ?_<|cc _ ?_<|cc _ ?_<|cc _ ?_<|cc _ ?_<|cc _ ?_<|cc _ ?_<|cc _ ?_<|cc _ ?_<|cc _ ?_<|cc _ ?_<|cc _ ?_<|cc _ ?_<|cc _ ?_<|cc _ ?_<|cc _ ?_ c0<;>(intros;simp_all;done)) ?_
  refine A7 (q:=b8||((decide (0 < (Fs d.kind)))&&(decide ((Fs d.kind) < (d.args.length:Int))))) (fun c2=>?_) fun c2=>?_
  ·subst hb8 hb7 hb6 hb5 hb4 hb3
   try simp only[Aq] at c2
   refine Aa [] [2] (Ad ?_);refine RK wR [(.bool false)] (Same.of_eq ?_);simp only[Ag];rw[Mw c1,Q4n,decide_eq_true (by rcases c2 with (((((h|h)|h)|h)|h)|h)|h<;>first|(simp[h];done)|(have h':d.args.length < 2:=(by omega);simp[h']))];rfl
  ·subst hb8 hb7 hb6 hb5 hb4 hb3
   try simp only[Aq] at c2
   refine Ae (Ac [] [2] [] (hk 3 (al:=[(Ak 5 Aw d.args),(.fn 198 [] [(.fp (.agg [(.int .i64 d.kind),(.str d.name),(.int .i64 d.op),(.str d.evr),(.row 5 d.args.length (depAt d.args))]))])]) Y0f ((Y11 d.args (.fn 198 [] [.fp (Aw d)]) (Om d.kind) (by omega) (fun i hi=>FunV.of (by exact Y0e) (X70 (nth d.args i) d (ih i hi)))).of_args (ImpL.cons Imp.refl (ImpL.cons (Imp.clo (by kernel_rfl)) ImpL.nil)))<|hk0) (vk 3 94 (Kp d.args)<|v0) c0 ?_);refine Ad ?_;refine RK wR [(.bool (!(d.args.any (Om d.kind))))] (Same.of_eq ?_);simp only[Ag];rw[Mw c1,Q4n,decide_eq_false (by rcases c2 with⟨⟨⟨⟨⟨⟨h1,h2⟩,h3⟩,h4⟩,h5⟩,h6⟩,h7⟩;simp[h3,h4,h5];omega),Q7t];simp
theorem X71 (d:DepT):d.size≤4194304→FnV prog 169 [Aw d] (.bool (Cu d)) :=
 Q1 (C:=fun d=>d.size≤4194304→FnV prog 169 [Aw d] (.bool (Cu d))) (fun d ih hs=>X72 d hs fun i hi=>ih i hi (by have:=L7 hi;omega)) d
theorem X2q (d:DepT) (hs:d.size≤4194304) (ih:∀i,i < d.args.length→FnV prog 193 [Aw (nth d.args i)] (.bool (Cu (nth d.args i)))) :
  FnV prog 193 [(.agg [(.int .i64 d.kind),(.str d.name),(.int .i64 d.op),(.str d.evr),(.row 5 d.args.length (depAt d.args))])] (.bool (Cu d)):=by
 have hda:=Ir d;have hal:=Fa d.args;refine Ax [.tmp 2] func193 ntmps193 fun B F hF=>?_;refine Ac [] [1] [(1,1)] hk0 v0 c0 ?_;refine Ab (Aa [] [1,12] ?_);refine A4 (p:=d.kind=1) (fun c1=>?_) fun c1=>?_
 ·refine Ac [] [1,3] [] (hk 2 Qv (Sj d.name (by omega))<|hk0) v0 c0 ?_;refine Ab ?_
  obtain⟨b1,hb1⟩:∃b,b=(!(Bh d.name)):=⟨_,rfl⟩
  obtain⟨b2,hb2⟩:∃b,b=(b1||(decide (d.op < 0))):=⟨_,rfl⟩
  obtain⟨b3,hb3⟩:∃b,b=(b2||(decide (7 < d.op))):=⟨_,rfl⟩
  refine Ac (CS:=[(4,((!b1)=true→(!b1)=true)),(5,((!b1)=true→(!b1)=true)),(6,(b1=false→(!b1)=true)),(9,((!b2)=true→(!b2)=true)),(10,((!b2)=true→(!b2)=true)),(11,(b2=false→(!b2)=true)),(14,((!b3)=true→(!b3)=true)),(15,((!b3)=true→(!b3)=true)),(16,((!b3)=true→(!b3)=true)),(17,(b3=false→(!b3)=true))]) [19,20,21,24,25,26,29,30,31,32] [1,33] [] hk0 (vk 3 18 (a:=.bool (!(Bh d.name))) (b:=.bool b1) (Imp.of_eq (by rw[hb1]))<|vk 8 23 (a:=.bool (b1||(decide (d.op < 0)))) (b:=.bool b2) (Imp.of_eq (by rw[hb2]))<|vk 13 28 (a:=.bool (b2||(decide (7 < d.op)))) (b:=.bool b3) (Imp.of_eq (by rw[hb3]))<|v0) (by refine cc _ ?_<|cc _ ?_<|cc _ ?_<|cc _ ?_<|cc _ ?_<|cc _ ?_<|cc _ ?_<|cc _ ?_<|cc _ ?_<|cc _ ?_ c0<;>simp) ?_;refine A7 (q:=b3||(decide (0 < (d.args.length:Int)))) (fun c2=>?_) fun c2=>?_
  ·subst hb3 hb2 hb1
   try simp only[Aq] at c2
   refine Aa [] [2] (Ad ?_);refine RK wR [(.bool false)] (Same.of_eq ?_);simp only[Ag];rw[Tt c1,Q4p (by rcases c2 with ((h|h)|h)|h<;>first|omega|simp_all)]
  ·subst hb3 hb2 hb1
   try simp only[Aq] at c2
   refine Ae ?_;refine Ab (Aa [] [1,36] ?_);refine A4 (p:=d.op=0) (fun c3=>?_) fun c3=>?_
   ·refine Aa [] [2] (Ad ?_);refine RK wR [(.bool (decide (d.evr=[])))] (Same.of_eq ?_);simp only[Ag];rw[Tt c1,X73 ⟨c2.1.1.1,by omega,by omega,by omega⟩ c3]
   ·refine Ae (Ac [] [5] [(8,4)] (hk 2 Xs (Q0t d.evr (by omega))<|hk0) v0 c0 ?_);refine Aa [] [2] (Ad ?_);refine RK wR [(.bool (decide ((Ch d.evr)=0)))] (Same.of_eq ?_);simp only[Ag];rw[Tt c1,X74 ⟨c2.1.1.1,by omega,by omega,by omega⟩ c3]
 ·refine Ae ?_;refine Aa [] [1,6] (Ab ?_)
  obtain⟨b4,hb4⟩:∃b,b=(decide (d.kind < 2)):=⟨_,rfl⟩
  obtain⟨b5,hb5⟩:∃b,b=(b4||(decide (6 < d.kind))):=⟨_,rfl⟩
  obtain⟨b6,hb6⟩:∃b,b=(b5||(!decide (d.name=[]))):=⟨_,rfl⟩
  obtain⟨b7,hb7⟩:∃b,b=(b6||(!decide (d.op=0))):=⟨_,rfl⟩
  obtain⟨b8,hb8⟩:∃b,b=(b7||(!decide (d.evr=[]))):=⟨_,rfl⟩
  refine Ac (CS:=[(5,((!b4)=true→(!b4)=true)),(6,((!b4)=true→(!b4)=true)),(7,(b4=false→(!b4)=true)),(10,((!b5)=true→(!b5)=true)),(11,((!b5)=true→(!b5)=true)),(12,(b5=false→(!b5)=true)),(15,((!b6)=true→(!b6)=true)),(16,((!b6)=true→(!b6)=true)),(17,(b6=false→(!b6)=true)),(20,((!b7)=true→(!b7)=true)),(21,((!b7)=true→(!b7)=true)),(22,(b7=false→(!b7)=true)),(25,((!b8)=true→(!b8)=true)),(26,(b8=false→(!b8)=true))]) [55,56,57,60,61,62,65,66,67,70,71,72,75,76] [1,6,77] [] hk0 (vk 4 54 (a:=.bool (decide (d.kind < 2))) (b:=.bool b4) (Imp.of_eq (by rw[hb4]))<|vk 9 59 (a:=.bool (b4||(decide (6 < d.kind)))) (b:=.bool b5) (Imp.of_eq (by rw[hb5]))<|vk 14 64 (a:=.bool (b5||(!decide (d.name=[])))) (b:=.bool b6) (Imp.of_eq (by rw[hb6]))<|vk 19 69 (a:=.bool (b6||(!decide (d.op=0)))) (b:=.bool b7) (Imp.of_eq (by rw[hb7]))<|vk 24 74 (a:=.bool (b7||(!decide (d.evr=[])))) (b:=.bool b8) (Imp.of_eq (by rw[hb8]))<|v0) (by refine cc _ ?_<|cc _ ?_<|cc _ ?_<|cc _ ?_<|cc _ ?_<|cc _ ?_<|cc _ ?_<|cc _ ?_<|cc _ ?_<|cc _ ?_<|cc _ ?_<|cc _ ?_<|cc _ ?_<|cc _ ?_ c0<;>simp) ?_;refine A7 (q:=b8||(decide ((d.args.length:Int) < 2))) (fun c4=>?_) fun c4=>?_
  ·subst hb8 hb7 hb6 hb5 hb4
   try simp only[Aq] at c4
   refine Aa [] [2] (Ad ?_);refine RK wR [(.bool false)] (Same.of_eq ?_);simp only[Ag];rw[Mw c1,X8j (by rcases c4 with ((((h|h)|h)|h)|h)|h<;>first|(simp[h];done)|(have h':d.args.length < 2:=(by omega);simp[h']))];rfl
  ·subst hb8 hb7 hb6 hb5 hb4
   try simp only[Aq] at c4
   refine Ae (Ab ?_)
   obtain⟨b9,hb9⟩:∃b,b=(decide (d.kind=4)):=⟨_,rfl⟩
   obtain⟨b10,hb10⟩:∃b,b=(b9&&(decide (3 < (d.args.length:Int)))):=⟨_,rfl⟩
   refine Ac (CS:=[(5,(b9=true→b9=true)),(6,(b9=true→b9=true)),(9,((!b10)=true→(!b10)=true)),(10,((!b10)=true→(!b10)=true)),(11,((!b10)=true→(!b10)=true)),(13,(((!b10)&&(decide (d.kind=6)))=true→((!b10)&&(decide (d.kind=6)))=true)),(14,((!b10)=true→((!b10)=true)∧((decide (d.kind=6))=true→((!b10)&&(decide (d.kind=6)))=true))),(15,(b10=false→(!b10)=true))]) [82,83,86,87,88,89,90,91,92] [1,6,93] [] hk0 (vk 4 81 (a:=.bool (decide (d.kind=4))) (b:=.bool b9) (Imp.of_eq (by rw[hb9]))<|vk 8 85 (a:=.bool (b9&&(decide (3 < (d.args.length:Int))))) (b:=.bool b10) (Imp.of_eq (by rw[hb10]))<|v0) (by refine cc _ ?_<|cc _ ?_<|cc _ ?_<|cc _ ?_<|cc _ ?_<|cc _ ?_<|cc _ ?_<|cc _ ?_ c0<;>(intros;simp_all;done)) ?_;refine A7 (q:=b10||((decide (d.kind=6))&&(decide (2 < (d.args.length:Int))))) (fun c5=>?_) fun c5=>?_
   ·subst hb10 hb9
    try simp only[Aq] at c5
    refine Aa [] [2] (Ad ?_);refine RK wR [(.bool false)] (Same.of_eq ?_);simp only[Ag];rw[Mw c1,X8g (by omega)];rfl
   ·subst hb10 hb9
    try simp only[Aq] at c5
    have hfb:Hr d.kind d.name d.op d.evr d.args.length=false:=X8f (by rcases c4 with⟨⟨⟨⟨⟨h1,h2⟩,h3⟩,h4⟩,h5⟩,h6⟩;simp[h3,h4,h5];omega) (by omega);refine Ae ?_;refine Ab (Aa [] [1,6,7] ?_);refine Au (B4 (fun g y=>∃(i:Nat),i≤d.args.length∧argsForm d.kind d.args=argsForm d.kind (d.args.drop i)∧y=⟨[(1,(.fp (.agg [(.int .i64 d.kind),(.str d.name),(.int .i64 d.op),(.str d.evr),(.row 5 d.args.length (depAt d.args))]))),(6,(.int .i64 ((d.args.length:Int)))),(7,(.int .i64 ((i:Int))))],[],1⟩∧g=d.args.length-i) [1,6,7] 1 _ (by omega) ⟨0,(by omega),(by rfl),(by kernel_rfl),rfl⟩ ?_);rintro g1 y1 ⟨i,f1_1,f1_2,rfl,rfl⟩;refine Ab (Aa [] [1,6,7,96] ?_);refine A4 (p:=(i:Int) < (d.args.length:Int)) (fun c6=>?_) fun c6=>?_
    ·refine Ae (Ab ?_);refine Au (Ac [] [1,6,7,8] [] hk0 (vk 3 100 (Kp d.args)<|v0) (cc 3 (p:=(0≤(i:Int)∧i < d.args.length)) (by omega)<|c0) ?_);refine Ab ?_
     obtain⟨b11,hb11⟩:∃b,b=(decide (5≤d.kind)):=⟨_,rfl⟩
     obtain⟨b12,hb12⟩:∃b,b=(b11&&(!decide (((nth d.args i).kind)=1))):=⟨_,rfl⟩
     obtain⟨b13,hb13⟩:∃b,b=(b12&&(!decide (((nth d.args i).kind)=5))):=⟨_,rfl⟩
     refine Ac (CS:=[(5,(b11=true→b11=true)),(6,(b11=true→b11=true)),(9,(b12=true→b12=true)),(10,(b12=true→b12=true)),(13,(b13=true→b13=true)),(14,(b13=true→b13=true))]) [109,110,113,114,117,118] [1,6,7,119] [] hk0 (vk 4 108 (a:=.bool (decide (5≤d.kind))) (b:=.bool b11) (Imp.of_eq (by rw[hb11]))<|vk 8 112 (a:=.bool (b11&&(!decide (((nth d.args i).kind)=1)))) (b:=.bool b12) (Imp.of_eq (by rw[hb12]))<|vk 12 116 (a:=.bool (b12&&(!decide (((nth d.args i).kind)=5)))) (b:=.bool b13) (Imp.of_eq (by rw[hb13]))<|v0) (by refine cc _ ?_<|cc _ ?_<|cc _ ?_<|cc _ ?_<|cc _ ?_<|cc _ ?_ c0<;>simp) ?_;refine A7 (q:=b13&&(!decide (((nth d.args i).kind)=6))) (fun c7=>?_) fun c7=>?_
     ·subst hb13 hb12 hb11
      try simp only[Aq] at c7
      refine Aa [] [2] (Ad ?_);refine RK wR [(.bool false)] (Same.of_eq ?_);simp only[Ag];rw[Mw c1,hfb,f1_2,Yd (by omega),X59 (by omega)];rfl
     ·subst hb13 hb12 hb11
      try simp only[Aq] at c7
      refine Ae (Ac [] [1,6,7,9] [] (hk 5 Q5w (ih i (by omega))<|hk0) (vk 3 121 (Kp d.args)<|v0) (cc 3 (p:=(0≤(i:Int)∧i < d.args.length)) (by omega)<|c0) ?_);refine Aa [] [1,6,7,127] ?_;refine A7 (q:=!(Cu (nth d.args i))) (fun c8=>?_) fun c8=>?_
      ·try simp only[Aq] at c8
       refine Aa [] [2] (Ad ?_);refine RK wR [(.bool false)] (Same.of_eq ?_);simp only[Ag];rw[Mw c1,hfb,f1_2,Yd (by omega),Q3o (by omega),c8];rfl
      ·try simp only[Aq] at c8
       refine Ae ?_;refine Aj (An 0 [] [1,6,7] [] hk0 v0 (cc 1 (p:=(-9223372036854775808≤(i:Int)+1∧(i:Int)+1≤9223372036854775807)) (by omega)<|c0) ?_);refine⟨by kernel_rfl,_,?_,i+1,?_,?_,(by kernel_rfl),rfl⟩
       ·omega
       ·omega
       ·rw[f1_2,Yd (by omega),Q3o (by omega),c8];rfl
    ·refine Br ?_;refine Aa [] [2] (Ad ?_);refine RK wR [(.bool true)] (Same.of_eq ?_);simp only[Ag];rw[Mw c1,hfb,f1_2,List.drop_of_length_le (by omega)];rfl
theorem X2p (d:DepT):d.size≤4194304→FnV prog 193 [Aw d] (.bool (Cu d)) :=
 Q1 (C:=fun d=>d.size≤4194304→FnV prog 193 [Aw d] (.bool (Cu d))) (fun d ih hs=>X2q d hs fun i hi=>ih i hi (by have:=L7 hi;omega)) d
theorem X3o (d:DepT) (hs:d.size≤4194304) (ih:∀i,i < d.args.length→FnV prog 194 [Aw (nth d.args i)] (.int .i64 (El (nth d.args i):Int))) :
  FnV prog 194 [(.agg [(.int .i64 d.kind),(.str d.name),(.int .i64 d.op),(.str d.evr),(.row 5 d.args.length (depAt d.args))])] (.int .i64 ((El d:Int))):=by
 have hda:=Ir d;have hal:=Fa d.args;refine Ax [.tmp 2] func194 ntmps194 fun B F hF=>?_;refine Ac [] [1] [(1,1)] hk0 v0 c0 ?_;refine Ab (Aa [] [1,7] ?_);refine A4 (p:=d.kind=1) (fun c1=>?_) fun c1=>?_
 ·refine Aa [] [2] (Ad ?_);refine RK wR [(.int .i64 1)] (Same.of_eq ?_);simp only[Ag];rw[X3q c1];rfl
 ·refine Ae (Aa [] [1,3] ?_);refine Ab (Aa [] [1,3,4] ?_);refine Au (B4 (fun g y=>∃(i:Nat),i≤d.args.length∧y=⟨[(1,(.fp (.agg [(.int .i64 d.kind),(.str d.name),(.int .i64 d.op),(.str d.evr),(.row 5 d.args.length (depAt d.args))]))),(3,(.int .i64 ((argsParts (d.args.take i):Int)))),(4,(.int .i64 ((i:Int))))],[],1⟩∧g=d.args.length-i) [1,3,4] 1 _ (by omega) ⟨0,(by omega),(by kernel_rfl),rfl⟩ ?_);rintro g1 y1 ⟨i,f1_1,rfl,rfl⟩;have hb1:=argsParts_le (d.args.take i);have hb2:=fun h=>Yc (l:=d.args) (i:=i) h;have hb3:=Q1d (nth d.args i);refine Ab (Aa [] [1,3,4,12] ?_);refine A4 (p:=(i:Int) < (d.args.length:Int)) (fun c2=>?_) fun c2=>?_
  ·refine Ae ?_;refine Ab (Au ?_);refine Aj (An (CS:=[(4,(0≤(i:Int)∧i < d.args.length)),(7,(-9223372036854775808≤(argsParts (d.args.take i):Int)+(El (nth d.args i):Int)∧(argsParts (d.args.take i):Int)+(El (nth d.args i):Int)≤9223372036854775807))]) 0 [] [1,3,4] [] (hk 6 Q5v (ih i (by omega))<|hk0) (vk 4 17 (Kp d.args)<|v0) (by refine cc _ ?_<|cc _ ?_ c0<;>omega) ?_);refine Aj (An 0 [] [1,3,4] [] hk0 v0 (cc 1 (p:=(-9223372036854775808≤(i:Int)+1∧(i:Int)+1≤9223372036854775807)) (by omega)<|c0) ?_);refine⟨by kernel_rfl,_,?_,i+1,?_,(Eq.trans (b:=(⟨[(1,(.fp (.agg [(.int .i64 d.kind),(.str d.name),(.int .i64 d.op),(.str d.evr),(.row 5 d.args.length (depAt d.args))]))),(3,(.int .i64 ((argsParts (d.args.take i):Int)+(El (nth d.args i):Int)))),(4,(.int .i64 ((i:Int)+1)))],[],1⟩:St)) (by kernel_rfl) (by rw[Y3i (by omega)];rfl)),rfl⟩
   ·omega
   ·omega
  ·refine Br ?_;refine Aa [] [2] (Ad ?_);refine RK wR [(.int .i64 ((argsParts (d.args.take i):Int)))] (Same.of_eq ?_);simp only[Ag];rw[X3r c1,List.take_of_length_le (by omega)]
theorem X3p (d:DepT):d.size≤4194304→FnV prog 194 [Aw d] (.int .i64 (El d:Int)) :=
 Q1 (C:=fun d=>d.size≤4194304→FnV prog 194 [Aw d] (.int .i64 (El d:Int))) (fun d ih hs=>X3o d hs fun i hi=>ih i hi (by have:=L7 hi;omega)) d
def Hk (d:DepT):Nat:=if d.kind=1 then 1 else 0
theorem Y19 (l:List UInt8) (m:Nat) (hm:m≤9000000) :
  Gz prog 171 [(.str l),(.ptr 0 0)] [(0,(.row [(.int .i64 (((m:Nat):Int)))] 3))] 1 (.tup []) [(0,(.row [(.int .i64 (((m+1:Nat):Int)))] 3))]:=by
 refine Nj [] func171 rfl ntmps171 rfl rfl (by kernel_rfl) (by kernel_rfl) (by kernel_rfl) (fun B F hF=>?_);refine Aj (An 0 [] [] [] hk0 v0 (cc 1 (p:=(-9223372036854775808≤((m:Nat):Int)+1∧((m:Nat):Int)+1≤9223372036854775807)) (by omega)<|c0) ?_);refine E6 (.inr rfl) (al:=[]) (by kernel_rfl) ?_ ((by kernel_rfl:Di 1 _=some [(0,(.row [(.int .i64 (((m:Nat):Int)+1))] 3))]).trans ?_)
 ·rfl
 ·rfl
theorem Y33 (d:DepT) (m:Nat) (hs:m+d.size≤8388608) (ih:∀i m,i < d.args.length→m+(nth d.args i).size≤8388608→Gz prog 170 [Aw (nth d.args i),.fn 171 [] [.ptr 0 0]] [(0,.row [.int .i64 ((m:Nat):Int)] 3)] 1 (.tup []) [(0,.row [.int .i64 ((m+F7 (nth d.args i):Nat):Int)] 3)]) :
  Gz prog 170 [(.agg [(.int .i64 d.kind),(.str d.name),(.int .i64 d.op),(.str d.evr),(.row 5 d.args.length (depAt d.args))]),(.fn 171 [] [(.ptr 0 0)])] [(0,(.row [(.int .i64 (((m:Nat):Int)))] 3))] 1 (.tup []) [(0,(.row [(.int .i64 (((m+F7 d:Nat):Int)))] 3))]:=by
 have hda:=Ir d;have hal:=Fa d.args
 have ho:Hk d≤1:=by unfold Hk;split<;>omega
 refine Nj [] func170 rfl ntmps170 rfl rfl (by kernel_rfl) (by kernel_rfl) (by kernel_rfl) (fun B F hF=>?_);refine Aa [] [1,2] (Pa 2 yS ?_);refine Ev (fun y=>y=⟨[(1,(.fn 171 [] [(.ptr 0 0)])),(2,(.fp (.agg [(.int .i64 d.kind),(.str d.name),(.int .i64 d.op),(.str d.evr),(.row 5 d.args.length (depAt d.args))])))],[(0,(.row [(.int .i64 (((m+Hk d:Nat):Int)))] 3))],2⟩) [1,2] 2 (by omega) ?_ ?_
 ·refine Aa [] [1,2,8] ?_;refine A4 (p:=d.kind=1) (fun c1=>?_) fun c1=>?_
  ·refine Aj (A9 3 0 [] [1,2,9,11] [] hk0 v0 c0 ?_);refine Ut [0] (f:=171) (cap:=[(.ptr 0 0)]) (al:=[(.str d.name)]) (al':=[(.str d.name),(.ptr 0 0)]) (r:=(.tup [])) (r':=(.tup [])) (H:=[(0,(.row [(.int .i64 (((m:Nat):Int)))] 3))]) (H':=[(0,(.row [(.int .i64 (((m+1:Nat):Int)))] 3))]) (by kernel_rfl) (by kernel_rfl) (by exact Y0o) (by kernel_rfl) (by kernel_rfl) (by kernel_rfl) (by kernel_rfl) (by kernel_rfl) (Y19 d.name m (by omega)) hS (by kernel_rfl) pS (Bd ?_);refine⟨by kernel_rfl,(Eq.trans (b:=(⟨[(1,(.fn 171 [] [(.ptr 0 0)])),(2,(.fp (.agg [(.int .i64 d.kind),(.str d.name),(.int .i64 d.op),(.str d.evr),(.row 5 d.args.length (depAt d.args))])))],[(0,(.row [(.int .i64 (((m+1:Nat):Int)))] 3))],2⟩:St)) (by kernel_rfl) (by unfold Hk;rw[if_pos c1]))⟩
  ·refine Ae ?_;refine⟨by kernel_rfl,(Eq.trans (b:=(⟨[(1,(.fn 171 [] [(.ptr 0 0)])),(2,(.fp (.agg [(.int .i64 d.kind),(.str d.name),(.int .i64 d.op),(.str d.evr),(.row 5 d.args.length (depAt d.args))])))],[(0,(.row [(.int .i64 (((m:Nat):Int)))] 3))],2⟩:St)) (by kernel_rfl) (by unfold Hk;rw[if_neg c1];rfl))⟩
 ·rintro y1 rfl;refine Aa [] [1,14,15,16] (Au ?_);refine Rf 14 (Ak 5 Aw d.args) (by kernel_rfl) (Kp d.args) (B4 (fun g y=>∃(i:Nat),i≤d.args.length∧y=⟨[(1,(.fn 171 [] [(.ptr 0 0)])),(14,(Ak 5 Aw d.args)),(15,(.int .i64 ((d.args.length:Int)))),(16,(.int .i64 ((i:Int))))],[(0,(.row [(.int .i64 (((m+Hk d+argsNames (d.args.take i):Nat):Int)))] 3))],2⟩∧g=d.args.length-i) [1,14,15,16] 2 _ (by omega) ⟨0,(by omega),(Eq.trans (b:=(⟨[(1,(.fn 171 [] [(.ptr 0 0)])),(14,(Ak 5 Aw d.args)),(15,(.int .i64 ((d.args.length:Int)))),(16,(.int .i64 0))],[(0,(.row [(.int .i64 (((m+Hk d:Nat):Int)))] 3))],2⟩:St)) (by kernel_rfl) (by simp only[List.take_zero,argsNames,Nat.add_zero];rfl)),rfl⟩ ?_);rintro g1 y1 ⟨i,f1_1,rfl,rfl⟩;have hb1:=argsNames_le (d.args.take i);have hb2:=fun h=>Yc (l:=d.args) (i:=i) h;refine Aa [] [1,14,15,16,17] (Ab ?_);refine A4 (p:=(i:Int) < (d.args.length:Int)) (fun c2=>?_) fun c2=>?_
  ·refine Ae (Ab ?_);refine Au (Ac [] [1,5,14,15,16] [] hk0 v0 (cc 0 (p:=(0≤(i:Int)∧i < d.args.length)) (by omega)<|c0) ?_);refine Aj ?_;refine A9 2 0 [] [1,14,15,16,20,21] [(0,5)] hk0 v0 c0 (Ew [0] (al:=[(.agg [(.int .i64 ((nth d.args i).kind)),(.str ((nth d.args i).name)),(.int .i64 ((nth d.args i).op)),(.str ((nth d.args i).evr)),(.row 5 (nth d.args i).args.length (depAt (nth d.args i).args))]),(.fn 171 [] [(.ptr 0 0)])]) (al':=[(.agg [(.int .i64 ((nth d.args i).kind)),(.str ((nth d.args i).name)),(.int .i64 ((nth d.args i).op)),(.str ((nth d.args i).evr)),(.row 5 (nth d.args i).args.length (depAt (nth d.args i).args))]),(.fn 171 [] [(.ptr 0 0)])]) (r:=(.tup [])) (r':=(.tup [])) (H:=[(0,(.row [(.int .i64 (((m+Hk d+argsNames (d.args.take i):Nat):Int)))] 3))]) (H':=[(0,(.row [(.int .i64 (((m+Hk d+argsNames (d.args.take i)+F7 (nth d.args i):Nat):Int)))] 3))]) (by kernel_rfl) (by exact Q53) (by kernel_rfl) (by kernel_rfl) (by kernel_rfl) (by kernel_rfl) (by kernel_rfl) (ih i (m+Hk d+argsNames (d.args.take i)) (by omega) (by have:=hb2 (by omega);omega)) hS (by kernel_rfl) pS ?_);refine Bd (Aj ?_)
   refine An 0 [] [1,14,15,16] [] hk0 v0 (cc 0 (p:=(-9223372036854775808≤(i:Int)+1∧(i:Int)+1≤9223372036854775807)) (by omega)<|c0) ?_;refine⟨by kernel_rfl,_,?_,i+1,?_,(Eq.trans (b:=(⟨[(1,(.fn 171 [] [(.ptr 0 0)])),(14,(Ak 5 Aw d.args)),(15,(.int .i64 ((d.args.length:Int)))),(16,(.int .i64 ((i:Int)+1)))],[(0,(.row [(.int .i64 (((m+Hk d+argsNames (d.args.take i)+F7 (nth d.args i):Nat):Int)))] 3))],2⟩:St)) (by kernel_rfl) (by rw[Y3j (by omega)];simp only[Nat.add_assoc];rfl)),rfl⟩
   all_goals omega
  ·refine Br ?_;refine E6 (.inr rfl) (al:=[]) (by kernel_rfl) ?_ ((by kernel_rfl:Di 1 _=some [(0,(.row [(.int .i64 (((m+Hk d+argsNames (d.args.take i):Nat):Int)))] 3))]).trans ?_)
   ·rfl
   ·rw[X4t,List.take_of_length_le (by omega)];simp only[Hk,Nat.add_assoc]
theorem Y32 (d:DepT):∀m,m+d.size≤8388608→Gz prog 170 [Aw d,.fn 171 [] [.ptr 0 0]] [(0,.row [.int .i64 ((m:Nat):Int)] 3)] 1 (.tup []) [(0,.row [.int .i64 ((m+F7 d:Nat):Int)] 3)] :=
 Q1 (C:=fun d=>∀m,m+d.size≤8388608→Gz prog 170 [Aw d,.fn 171 [] [.ptr 0 0]] [(0,.row [.int .i64 ((m:Nat):Int)] 3)] 1 (.tup []) [(0,.row [.int .i64 ((m+F7 d:Nat):Int)] 3)]) (fun d ih m hs=>Y33 d m hs fun i m hi h=>ih i hi m h) d
theorem Uy (d:DepT) (hs:d.size≤4194304) :
  FnV prog 114 [(.agg [(.int .i64 d.kind),(.str d.name),(.int .i64 d.op),(.str d.evr),(.row 5 d.args.length (depAt d.args))])] (.int .i64 (Cg d)):=by
 refine Ax [.tmp 2] func114 ntmps114 fun B F hF=>?_;refine Ac [] [1] [(1,1)] hk0 v0 c0 ?_;refine Ab (Ac [] [1,6] [] (hk 1 Q55 (X71 d hs)<|hk0) v0 c0 ?_);refine A7 (q:=!(Cu d)) (fun c1=>?_) fun c1=>?_
 ·try simp only[Aq] at c1
  refine Aa [] [2] (Ad ?_);refine RK wR [(.int .i64 50)] (Same.of_eq ?_);simp only[Ag];rw[Cg,c1];rfl
 ·try simp only[Aq] at c1
  refine Ae (Aa [] [1,3] ?_);refine Ab (Aj ?_);refine A9 2 0 [] [3,7,8] [] hk0 v0 c0 (Ew [1] (al:=[(.agg [(.int .i64 d.kind),(.str d.name),(.int .i64 d.op),(.str d.evr),(.row 5 d.args.length (depAt d.args))]),(.fn 171 [] [(.ptr 1 0)])]) (al':=[(.agg [(.int .i64 d.kind),(.str d.name),(.int .i64 d.op),(.str d.evr),(.row 5 d.args.length (depAt d.args))]),(.fn 171 [] [(.ptr 0 0)])]) (r:=(.tup [])) (r':=(.tup [])) (H:=[(0,(.row [(.int .i64 0)] 3))]) (H':=[(0,(.row [(.int .i64 (((0+F7 d:Nat):Int)))] 3))]) (by kernel_rfl) (by exact Q53) (by kernel_rfl) (by kernel_rfl) (by kernel_rfl) (by kernel_rfl) (by kernel_rfl) (Y32 d 0 (by omega)) hS (by kernel_rfl) pS ?_);refine Bd ?_;refine Ab (Aa [] [11] ?_);refine A4 (p:=16 < ((0+F7 d:Nat):Int)) (fun c2=>?_) fun c2=>?_
  ·refine Aa [] [2] (Ad ?_);refine RK wR [(.int .i64 51)] (Same.of_eq ?_);simp only[Ag];rw[Cg,c1,if_pos rfl,if_pos (by have:=Wh d c1;omega)]
  ·refine Ae ?_;refine Aa [] [2] (Ad ?_);refine RK wR [(.int .i64 0)] (Same.of_eq ?_);simp only[Ag];rw[Cg,c1,if_pos rfl,if_neg (by have:=Wh d c1;omega)]
theorem X2u (d:DepT) (hs:d.size≤4194304) :
  FnV prog 162 [(.agg [(.int .i64 d.kind),(.str d.name),(.int .i64 d.op),(.str d.evr),(.row 5 d.args.length (depAt d.args))])] (.int .i64 (Cg d)):=by
 refine Ax [.tmp 2] func162 ntmps162 fun B F hF=>?_;refine Ac [] [1] [(1,1)] hk0 v0 c0 (Ac [] [1,3] [] (hk 1 Q5w (X2p d hs)<|hk0) v0 c0 ?_);refine Ab (Aa [] [1,7] ?_);refine A7 (q:=!(Cu d)) (fun c1=>?_) fun c1=>?_
 ·try simp only[Aq] at c1
  refine Aa [] [2] (Ad ?_);refine RK wR [(.int .i64 50)] (Same.of_eq ?_);simp only[Ag];rw[Cg,c1];rfl
 ·try simp only[Aq] at c1
  refine Ae ?_;refine Ab (Ac [] [10] [] (hk 1 Q5v (X3p d hs)<|hk0) v0 c0 ?_);refine A4 (p:=16 < (El d:Int)) (fun c2=>?_) fun c2=>?_
  ·refine Aa [] [2] (Ad ?_);refine RK wR [(.int .i64 51)] (Same.of_eq ?_);simp only[Ag];rw[Cg,c1,if_pos rfl,if_pos (by omega)]
  ·refine Ae ?_;refine Aa [] [2] (Ad ?_);refine RK wR [(.int .i64 0)] (Same.of_eq ?_);simp only[Ag];rw[Cg,c1,if_pos rfl,if_neg (by omega)]
end
theorem Y6l (k op:Int) (nm ev:List UInt8) (args:List DepT) (sv:Value) (css:List (List Value)) (w:World) (hr:RowIs w sv args.length 5 css.flatten) (ha:ArgsC w args css) (hs:argsSize args+1+nm.length+ev.length≤4194304) (hchk:∀w1,Below w.heap.size w w1→Calls prog 114 #[.agg #[.int .i64 k,S nm,.int .i64 op,S ev,sv]] w1 (Ret fun v w'=>v = .int .i64 (Cg (DepT.mk k nm op ev args))∧Below w1.heap.size w1 w')) :
  Calls prog 175 #[(.agg #[(.int .i64 (k)),(S (nm)),(.int .i64 (op)),(S (ev)),(sv)])] w (Ret fun v w'=>v = .tuple #[S (Iv (DepT.mk k nm op ev args)).1,.int .i64 (Iv (DepT.mk k nm op ev args)).2]∧Below w.heap.size w w'):=by
 have hd0:DepC w (DepT.mk k nm op ev args) [.int .i64 k,S nm,.int .i64 op,S ev,sv]:=Y13 hr ha
 have hz0:(DepT.mk k nm op ev args).size≤4194304:=by unfold DepT.size;omega
 refine D1 func175 rfl ntmps175 ?_;refine W_seq (W_reg ?_);refine Yp (v:=(.agg #[(.int .i64 (k)),(S (nm)),(.int .i64 (op)),(S (ev)),(sv)])) rfl rfl (fun w1 n1=>?_);have e1:w1.heap[w.heap.size]? = some (.cells #[(.int .i64 (k)),(S (nm)),(.int .i64 (op)),(S (ev)),(sv)] 86 (0,0)):=n1.here;have z1:=n1.size;refine Ah (v:=(S ([]))) rfl rfl ?_;refine Ah (v:=(.int .i64 (0))) rfl rfl (A0 ?_);refine W_seq (W_seq ?_);refine W_reg (Nc (b:=w.heap.size) (o:=0) (m:=5) (c := #[(.int .i64 (k)),(S (nm)),(.int .i64 (op)),(S (ev)),(sv)]) rfl rfl underlying86 rfl (fun _=>by kernel_rfl) e1 (by simp) ?_);refine Ip 6 (v':=(.agg #[(.int .i64 (k)),(S (nm)),(.int .i64 (op)),(S (ev)),(sv)])) rfl rfl (Cv rfl (by exact Q0) (hchk _ (n1.below (Below.refl w.heap.size w) (Below.refl w.heap.size w).size)) ?_);rintro _ wk ⟨rfl,bk⟩;have z_wk:=bk.size;refine Ah (v:=(.int .i64 (Cg (DepT.mk k nm op ev args)))) rfl rfl ?_;refine A0 (W_seq ?_);refine W_reg (Ah (v:=(.int .i64 (Cg (DepT.mk k nm op ev args)))) rfl rfl ?_);refine Ah (v:=(.bool (!decide ((Cg (DepT.mk k nm op ev args))=0)))) rfl rfl (A0 ?_)
 refine W_cond (t:=!decide ((Cg (DepT.mk k nm op ev args))=0)) rfl (fun c1=>?_) (fun c1=>?_)
 ·refine W_seq ?_;refine W_reg (Ah (v:=(.int .i64 (Cg (DepT.mk k nm op ev args)))) rfl rfl ?_);refine Ah (v:=(S ([]))) rfl rfl (Ah (v:=(.int .i64 (Cg (DepT.mk k nm op ev args)))) rfl rfl ?_);refine A0 (W_ret ?_);refine X9 rfl (v0:=(S ([]))) (v1:=(.int .i64 (Cg (DepT.mk k nm op ev args)))) rfl rfl ?_
  have hbel:=(Dg (n1.below (Below.refl w.heap.size w) (Below.refl w.heap.size w).size) bk)
  exact⟨by unfold Iv;rw[if_neg (by simpa using c1)],hbel⟩
 ·refine W_skip ?_;refine W_seq (W_reg ?_);refine O7 (v:=(.agg #[(.pointer none),(.slice none 0 0)])) rfl (fun _=>by kernel_rfl) (fun w2 n2=>?_);have e2:w2.heap[wk.heap.size]? = some (.cells #[(.pointer none),(.slice none 0 0)] 212 (0,0)):=n2.here;have z2:=n2.size;refine A0 ?_;refine W_seq (W_reg ?_);have hfo:Cu (DepT.mk k nm op ev args)=true:=X2 (by simpa using c1);refine Nc (b:=w.heap.size) (o:=0) (m:=5) (c := #[(.int .i64 (k)),(S (nm)),(.int .i64 (op)),(S (ev)),(sv)]) rfl rfl underlying86 rfl (fun _=>by kernel_rfl) (n2.keep (D8 bk e1)) (by simp) ?_;refine Ip 11 (v':=(.agg #[(.int .i64 (k)),(S (nm)),(.int .i64 (op)),(S (ev)),(sv)])) rfl rfl (Cv rfl (by exact Qy) (X26 (DepT.mk k nm op ev args) w _ _ _ [] hd0 (n2.below (Dg (n1.below (Below.refl w.heap.size w) (Below.refl w.heap.size w).size) bk) (Dg (n1.below (Below.refl w.heap.size w) (Below.refl w.heap.size w).size) bk).size) (by omega) (Bld.fresh e2) hfo hz0 (by simp only[List.length_nil];omega)) ?_);rintro _ wp ⟨hp,kp⟩;have zp:=kp.size;have z_wp:=kp.size;refine A0 (W_seq ?_);refine W_reg (Cv rfl (by exact Y0q) (X0s hp) ?_);rintro _ wt ⟨rfl,kt⟩;have zt:=kt.size;have z_wt:=kt.size
  refine Ah (v:=(S (Fp (DepT.mk k nm op ev args)))) rfl rfl (Ah (v:=(.int .i64 (0))) rfl rfl ?_);refine A0 (W_ret ?_);refine X9 rfl (v0:=(S (Fp (DepT.mk k nm op ev args)))) (v1:=(.int .i64 (0))) rfl rfl ?_
  have hbel:=(F9 (F9 (n2.below (Dg (n1.below (Below.refl w.heap.size w) (Below.refl w.heap.size w).size) bk) (Dg (n1.below (Below.refl w.heap.size w) (Below.refl w.heap.size w).size) bk).size) kp (by omega)) kt (by omega))
  exact⟨by unfold Iv;rw[if_pos (by simpa using c1)],hbel⟩
theorem Y6m (d:DepT) (hs:d.size≤4194304):FnV prog 175 [Aw d] (.tup [.str (Iv d).1,.int .i64 (Iv d).2]):=by
 intro F w vs hF hv;obtain⟨v,rfl,h1⟩:=hv.single_inv;obtain⟨cs,rfl,hd⟩:=Y12 hF d v h1
 have hchk:∀w1,Below w.heap.size w w1→Calls prog 114 #[.agg cs.toArray] w1 (Ret fun v w'=>v = .int .i64 (Cg d)∧Below w1.heap.size w1 w'):=fun w1 hb =>
  ((Uy d hs) F w1 [.agg cs.toArray] (fun b o e=>(hb.block b (Dl (hF b o e))).trans (hF b o e)) (.single h1)).mono (by
   rintro e w' ⟨v,he,hb',F',_,_,_,hr⟩;simp only[VR] at hr;subst hr
   exact⟨_,he,rfl,hb'⟩)
 have hc:Calls prog 175 #[.agg cs.toArray] w (Ret fun v w'=>v = .tuple #[S (Iv d).1,.int .i64 (Iv d).2]∧Below w.heap.size w w'):=by
  cases d with
  |mk k nm op ev args =>
   unfold DepC at hd;obtain⟨sv,css,rfl,hr,ha⟩:=hd;unfold DepT.size at hs;exact Y6l k op nm ev args sv css w hr ha (by omega) hchk
 refine hc.mono ?_;rintro e w' ⟨v,he,rfl,hb⟩;exact⟨_,he,hb,F,fun _ _ e=>e,fun b o e=>(hb.block b (Dl (hF b o e))).trans (hF b o e),fun _ _ e => .inl e,by simp only[VR];exact⟨[_,_],.cons (by simp only[VR]) (.cons (by simp only[VR]) .nil),rfl⟩⟩
section
attribute [local irreducible] SW SO Bk
theorem Y0u:Ai prog 157:=Am func157
theorem X8y:Ai prog 97:=Am func97
theorem Lp:Ai prog 96:=Am func96
theorem Q44:Ai prog 95:=Am func95
theorem Q5f:Ai prog 56:=Am func56
theorem X85:Ai prog 84:=Am func84
theorem Q5g:Ai prog 52:=Am func52
theorem Y2g (l:List (List UInt8)) (hl:l.length≤4611686018427) :
  FnV prog 97 [(Dc l)] (Dc l):=by
 refine Ax [.tmp 2] func97 ntmps97 fun B F hF=>?_;refine Aa [] [0] ?_;refine Ab (Ab ?_);refine Aj (A9 1 0 [] [0,3] [] hk0 v0 c0 ?_);refine Us (G:=Sg (Dc l)) (sz:=1) (m:=l.length) (e:=9) (by kernel_rfl) (by kernel_rfl) (by kernel_rfl) (by kernel_rfl) (fun nq1=>⟨[(0,(Dc l)),(3,(Dc l)),(4,(.bool nq1))],by kernel_rfl,fun hnq1=>?_⟩);refine Bd ?_;refine A7 (q:=nq1) (fun c1=>?_) fun c1=>?_
 ·refine Aa [] [2] ?_;refine Ad (RK wR [.nils] ?_);simp only[Ag];exact(Same.of_eq rfl).trans (Imp.same (by have:=hnq1 (by simp_all);have:l=[]:=List.length_eq_zero_iff.1 this;subst this;exact Imp.nil))
 ·refine Ae (Ac [] [2] [] hk0 v0 (cc 2 (p:=((([]:List AV).length+l.length)*16≤140737488355328)) (by(simp;omega))<|c0) ?_);refine Ad (RK wR [(.row 1 (([]:List AV)++((List.range l.length).map (fun kx=>((.str (nth l kx)):AV)))).length (fun ix=>(([]:List AV)++((List.range l.length).map (fun kx=>((.str (nth l kx)):AV)))).getD ix Bl))] ?_);simp only[Ag];exact Same.grown (f:=AV.str) (l:=l) (by simp[Sl])
theorem Q1z (l:List DepT) (hs:argsSize l≤4194304) (ih:∀i,i < l.length→FnV prog 96 [D0 (nth l i).args] (.row 5 (nth l i).args.length (depAt (nth l i).args))) :
  FnV prog 96 [(Ak 5 Aw l)] (.row 5 l.length (depAt l)):=by
 have hal:=Fa l;refine Ax [.tmp 2] func96 ntmps96 fun B F hF=>?_;refine Aa [] [0] (Ab ?_);refine Aj (A9 1 0 [] [5] [] hk0 v0 c0 ?_);refine K3 [.tmp 2] (al:=[(Ak 5 Aw l)]) (s0:=[(5,(Ak 5 Aw l))]) (by kernel_rfl) (by exact Y0u) (by kernel_rfl) func157 rfl ntmps157 rfl (by kernel_rfl) (by kernel_rfl) (fun F1 hF1 hle1=>?_);refine Aa [] [0] ?_;refine Ab (Ab ?_);refine Aj (A9 1 0 [] [0,3] [] hk0 v0 c0 ?_);refine Us (G:=Sg (Ak 5 Aw l)) (sz:=5) (m:=l.length) (e:=86) (by kernel_rfl) (by kernel_rfl) (by kernel_rfl) (by kernel_rfl) (fun nq1_1=>⟨[(0,(Ak 5 Aw l)),(3,(Ak 5 Aw l)),(4,(.bool nq1_1))],by kernel_rfl,fun hnq1_1=>?_⟩);refine Bd ?_;refine A7 (q:=nq1_1) (fun c1=>?_) fun c1=>?_
 ·refine Aa [] [2] (Ad ?_);refine Iw (.inl rfl) (al:=[.nils]) (s':=[(5,(Ak 5 Aw l)),(6,.nils)]) (by kernel_rfl) (by kernel_rfl) (An 2 [] [0] [] hk0 v0 c0 ?_);refine Ab (Aa [] [0,7,8,9] ?_);refine Au (K2 1 ?_);refine Db (Aa [] [0,7,8,9,10] ?_);refine Ab (Cy ?_);refine Br (Aa [] [2] ?_);refine Ad (RK wR [.nils] ?_);have h0:l=[]:=List.length_eq_zero_iff.1 (hnq1_1 c1);subst h0;exact(Same.nil (f:=Aw)).trans (Ko []).same
 ·refine Ae (Ac [] [2] [] hk0 v0 (cc 2 (p:=((([]:List AV).length+l.length)*72≤140737488355328)) (by(simp;omega))<|c0) ?_);refine Ad (Iw (.inl rfl) (al:=[(.own 1)]) (s':=[(5,(Ak 5 Aw l)),(6,(.own 1))]) (by kernel_rfl) (by kernel_rfl) ?_);refine An 2 [] [0] [] hk0 v0 c0 (Ab ?_);refine Aa [] [0,7,8,9] (Au ?_)
  refine B4 (fun g y=>∃(i:Nat),i≤l.length∧y=⟨[(0,(.own 1)),(7,(.own 1)),(8,(.int .i64 (((l.map Aw).length:Int)))),(9,(.int .i64 ((i:Int))))],[(1,(.grow (l.map Aw) 86 5))],2⟩∧g=l.length-i) [0,7,8,9] 2 _ (by omega) ⟨0,(by omega),(Eq.trans (b:=(⟨[(0,(.own 1)),(7,(.own 1)),(8,(.int .i64 (((([]:List AV)++((List.range l.length).map (fun kx=>((.agg [(.int .i64 ((nth l kx).kind)),(.str ((nth l kx).name)),(.int .i64 ((nth l kx).op)),(.str ((nth l kx).evr)),(.row 5 (nth l kx).args.length (depAt (nth l kx).args))]):AV)))).length:Int)))),(9,(.int .i64 0))],[(1,(.grow (([]:List AV)++((List.range l.length).map (fun kx=>((.agg [(.int .i64 ((nth l kx).kind)),(.str ((nth l kx).name)),(.int .i64 ((nth l kx).op)),(.str ((nth l kx).evr)),(.row 5 (nth l kx).args.length (depAt (nth l kx).args))]):AV)))) 86 5))],2⟩:St)) (by kernel_rfl) (by rw[show(([]:List AV)++((List.range l.length).map (fun kx=>((.agg [(.int .i64 ((nth l kx).kind)),(.str ((nth l kx).name)),(.int .i64 ((nth l kx).op)),(.str ((nth l kx).evr)),(.row 5 (nth l kx).args.length (depAt (nth l kx).args))]):AV))))=l.map Aw from Q10 Aw l];rfl)),rfl⟩ ?_;rintro g2 y2 ⟨i,f2_1,rfl,rfl⟩;have hlm:(l.map Aw).length=l.length:=List.length_map _
  refine Aa [] [0,7,8,9,10] (Ab ?_);refine A4 (p:=(i:Int) < ((l.map Aw).length:Int)) (fun c2=>?_) fun c2=>?_
  ·refine Ae ?_;refine Ab (Au ?_);refine Ab (Aj ?_);refine A9 1 0 [] [0,7,8,9,11] [] hk0 v0 c0 (Ng (b:=1) (i:=i) (es:=l.map Aw) (e:=86) (sz:=5) (k:=.i64) (by kernel_rfl) (by kernel_rfl) (by kernel_rfl) (by kernel_rfl) (by kernel_rfl) (by kernel_rfl) (by first|(rw[List.length_map];omega)|simp_all) pS ?_);refine Ur (b:=1) (e:=86) (sz:=5) (es:=l.map Aw) (o:=i*5) (i:=i) (j:=0) (a:=(.agg [(.int .i64 ((nth l i).kind)),(.str ((nth l i).name)),(.int .i64 ((nth l i).op)),(.str ((nth l i).evr)),(.row 5 (nth l i).args.length (depAt (nth l i).args))])) (r:=(.agg [(.int .i64 ((nth l i).kind)),(.str ((nth l i).name)),(.int .i64 ((nth l i).op)),(.str ((nth l i).evr)),(.row 5 (nth l i).args.length (depAt (nth l i).args))])) (by kernel_rfl) (by kernel_rfl) rfl (by kernel_rfl) (Tl (l:=l) Aw (by omega)) (by kernel_rfl) pS ?_;refine An 3 [] [0,3,4,7,8,9] [] hk0 v0 c0 ?_;refine Aj (A9 5 0 [] [0,7,8,9,14,15,18] [(0,4)] (hk 4 Lp (ih i (by omega))<|hk0) (vk 4 17 (Kp (nth l i).args)<|v0) c0 ?_)
   refine Ng (b:=1) (i:=i) (es:=l.map Aw) (e:=86) (sz:=5) (k:=.i64) (by kernel_rfl) (by kernel_rfl) (by kernel_rfl) (by kernel_rfl) (by kernel_rfl) (by kernel_rfl) (by first|(rw[List.length_map];omega)|simp_all) pS ?_;refine Gy (b:=1) (o:=i*5) (off:=4) (by kernel_rfl) (by kernel_rfl) (by kernel_rfl) pS (J3 (b:=1) (e:=86) (sz:=5) (es:=l.map Aw) (o:=i*5+4) (i:=i) (j:=4) (a:=(.agg [(.int .i64 ((nth l i).kind)),(.str ((nth l i).name)),(.int .i64 ((nth l i).op)),(.str ((nth l i).evr)),(.row 5 (nth l i).args.length (depAt (nth l i).args))])) (r:=(.agg [(.int .i64 ((nth l i).kind)),(.str ((nth l i).name)),(.int .i64 ((nth l i).op)),(.str ((nth l i).evr)),(.row 5 ((nth l i).args).length (depAt ((nth l i).args)))])) (v:=(.row 5 ((nth l i).args).length (depAt ((nth l i).args)))) (by kernel_rfl) (by kernel_rfl) rfl (by kernel_rfl) (by kernel_rfl) (Tl (l:=l) Aw (by omega)) (by kernel_rfl) pS ?_);refine Bd ?_;refine Aj (An 0 [] [0,7,8,9] [] hk0 v0 (cc 0 (p:=(-9223372036854775808≤(i:Int)+1∧(i:Int)+1≤9223372036854775807)) (by omega)<|c0) ?_);refine⟨by kernel_rfl,_,?_,i+1,?_,(Eq.trans (by kernel_rfl) (congrArg (fun es=>St.mk _ [(1,AO.grow es _ _)] _) (X1e Aw l i))),rfl⟩
   all_goals omega
  ·refine Br (Aa [] [2] ?_);refine Ad (RK wR [(.row 5 (l.map Aw).length (fun ix=>(l.map Aw).getD ix Bl))] ?_);simp only[Ag];exact(Same.grown (f:=Aw) (l:=l) rfl).trans (Ko l).same
theorem X3t (l:List DepT):argsSize l≤4194304→FnV prog 96 [D0 l] (.row 5 l.length (depAt l)):=by
 have key:∀n (l:List DepT),argsSize l≤n→argsSize l≤4194304→FnV prog 96 [D0 l] (.row 5 l.length (depAt l)):=by
  intro n
  induction n with
  |zero=>exact fun l h hs=>Q1z l hs fun i hi=>by have:=Q7r hi;omega
  |succ n ih=>exact fun l h hs=>Q1z l hs fun i hi=>by have:=Q7r hi;exact ih _ (by omega) (by omega)
 exact key _ l (Nat.le_refl _)
theorem Mh (l:List DepT) (hs:argsSize l≤4194304):FnV prog 96 [D0 l] (D0 l):=(X3t l hs).to (Kp l).same
theorem Q6r (p:PkgT) (hs:p.depSize≤4194304) (hf:p.files.length≤4611686018427) :
  FnV prog 56 [(A1 p)] (A1 p):=by
 unfold PkgT.depSize at hs;refine Ax [.cell 2 77] func56 ntmps56 fun B F hF=>?_;refine Aa [] [1,2] (Ab ?_);refine Ab (Aj ?_);refine K3 [.tmp 2] (al:=[(.ptr 0 0)]) (s0:=[(1,(.ptr 0 0)),(2,(.ptr 1 0))]) (by kernel_rfl) (by exact Q44) (by kernel_rfl) func95 rfl ntmps95 rfl (by kernel_rfl) (by kernel_rfl) (fun F1 hF1 hle1=>?_);refine Aa [] [0] ?_;refine Da [] [2] [] hk0 v0 c0 (Ad ?_);refine Iw (.inl rfl) (al:=[(.sl 2 0 7 7 false)]) (s':=[(1,(.ptr 0 0)),(2,(.ptr 1 0)),(5,(.sl 2 0 7 7 false))]) (by kernel_rfl) (by kernel_rfl) (An 1 [] [1,2,5,6,7] [] hk0 v0 c0 ?_);refine Au (K2 8 ?_);refine Db (Aa [] [1,2,5,6,7,8] ?_);refine Ab (Dz ?_);refine Ae (Ab ?_);refine Au (Aa [] [1,2,4,5,6,7] ?_);refine Aj (An 0 [] [1,2,5,6,7] [] (hk 4 Lp (Mh p.provides (by omega))<|hk0) v0 c0 ?_);refine Aj (An 0 [] [1,2,5,6,7] [] hk0 v0 (cc 0 (p:=(-9223372036854775808≤(1:Int)∧(1:Int)≤9223372036854775807)) (by omega)<|c0) ?_);refine Db ?_;refine Aa [] [1,2,5,6,7,8] (Ab ?_);refine Dz (Ae ?_);refine Ab (Au ?_);refine Aa [] [1,2,4,5,6,7] (Aj ?_)
 refine An 0 [] [1,2,5,6,7] [] (hk 4 Lp (Mh p.requires (by omega))<|hk0) v0 c0 ?_;refine Aj (An 0 [] [1,2,5,6,7] [] hk0 v0 (cc 0 (p:=(-9223372036854775808≤(2:Int)∧(2:Int)≤9223372036854775807)) (by omega)<|c0) ?_);refine Db (Aa [] [1,2,5,6,7,8] ?_);refine Ab (Dz ?_);refine Ae (Ab ?_);refine Au (Aa [] [1,2,4,5,6,7] ?_);refine Aj (An 0 [] [1,2,5,6,7] [] (hk 4 Lp (Mh p.pre (by omega))<|hk0) v0 c0 ?_);refine Aj (An 0 [] [1,2,5,6,7] [] hk0 v0 (cc 0 (p:=(-9223372036854775808≤(3:Int)∧(3:Int)≤9223372036854775807)) (by omega)<|c0) ?_);refine Db (Aa [] [1,2,5,6,7,8] ?_);refine Ab (Dz ?_);refine Ae (Ab ?_);refine Au (Aa [] [1,2,4,5,6,7] ?_);refine Aj (An 0 [] [1,2,5,6,7] [] (hk 4 Lp (Mh p.conflicts (by omega))<|hk0) v0 c0 ?_);refine Aj (An 0 [] [1,2,5,6,7] [] hk0 v0 (cc 0 (p:=(-9223372036854775808≤(4:Int)∧(4:Int)≤9223372036854775807)) (by omega)<|c0) ?_);refine Db (Aa [] [1,2,5,6,7,8] ?_);refine Ab (Dz ?_);refine Ae (Ab ?_);refine Au (Aa [] [1,2,4,5,6,7] ?_);refine Aj (An 0 [] [1,2,5,6,7] [] (hk 4 Lp (Mh p.obsoletes (by omega))<|hk0) v0 c0 ?_)
 refine Aj (An 0 [] [1,2,5,6,7] [] hk0 v0 (cc 0 (p:=(-9223372036854775808≤(5:Int)∧(5:Int)≤9223372036854775807)) (by omega)<|c0) ?_);refine Db (Aa [] [1,2,5,6,7,8] ?_);refine Ab (Dz ?_);refine Ae (Ab ?_);refine Au (Aa [] [1,2,4,5,6,7] ?_);refine Aj (An 0 [] [1,2,5,6,7] [] (hk 4 Lp (Mh p.recommends (by omega))<|hk0) v0 c0 ?_);refine Aj (An 0 [] [1,2,5,6,7] [] hk0 v0 (cc 0 (p:=(-9223372036854775808≤(6:Int)∧(6:Int)≤9223372036854775807)) (by omega)<|c0) ?_);refine Db (Aa [] [1,2,5,6,7,8] ?_);refine Ab (Dz ?_);refine Ae (Ab ?_);refine Au (Aa [] [1,2,4,5,6,7] ?_);refine Aj (An 0 [] [1,2,5,6,7] [] (hk 4 Lp (Mh p.supplements (by omega))<|hk0) v0 c0 ?_);refine Aj (An 0 [] [1,2,5,6,7] [] hk0 v0 (cc 0 (p:=(-9223372036854775808≤(7:Int)∧(7:Int)≤9223372036854775807)) (by omega)<|c0) ?_);refine Db (Aa [] [1,2,5,6,7,8] ?_);refine Ab (Cy ?_);refine Br (Ac [] [1,2] [] (hk 2 X8y (Y2g p.files hf)<|hk0) v0 c0 ?_);refine Aa [] [2] ?_;refine Ad (RK wR [(A1 p)] ?_);exact Same.of_eq rfl
end
theorem Q39 {l:List UInt8} {p:Nat→Bool} (hp:∀r,128≤r→p r=true):∀(fuel pos:Nat),l.length≤pos+fuel→decide (Lib.idxFuncFrom p true ⟨l.toArray⟩ fuel pos < 0)=(l.drop pos).all (fun b => !p b.toNat)
 |0,pos,h=>by
  rw[List.drop_of_length_le (by omega)];rfl
 |fuel+1,pos,h=>by
  have hsz:(⟨l.toArray⟩:ByteArray).size=l.length:=Gx l;by_cases hpos:pos < l.length
  ·have hdrop:l.drop pos=Af l pos::l.drop (pos+1):=by
    rw[List.drop_eq_getElem_cons hpos,I5 hpos]
   rw[hdrop,List.all_cons];simp only[Lib.idxFuncFrom,hsz,hpos,if_true];by_cases ha:(Af l pos).toNat < 128
   ·rw[M0 hpos ha];simp only
    cases hc:p (Af l pos).toNat with
    |true=>simp
    |false =>
     have:=Q39 (l:=l) hp fuel (pos+1) (by omega);simpa using this
   ·have hh:=T9 hpos (by omega);have h1:=hp _ hh.1;have h2:=hp (Af l pos).toNat (by omega);rw[h1,h2];simp
  ·rw[List.drop_of_length_le (by omega)]
   have:¬pos < (⟨l.toArray⟩:ByteArray).size:=by rw[hsz];exact hpos
   simp[Lib.idxFuncFrom,this]
theorem X7b {l:List UInt8} {p:Nat→Bool} (hp:∀r,128≤r→p r=true):decide (Lib.idxFunc p true ⟨l.toArray⟩ < 0)=l.all (fun b => !p b.toNat):=by
 have:=Q39 (l:=l) hp l.length 0 (by omega);rw[List.drop_zero] at this;rw[←this];unfold Lib.idxFunc;rw[show(⟨l.toArray⟩:ByteArray).size=l.length from Gx l]
theorem Y1 (s:List UInt8) (g:Nat) (cap:List AV) (p:Nat→Bool) (he:Ai prog g) (hc:frzl cap=true) (h:∀x:Nat,x≤1114111→FnV prog g (.int .i32 x::cap) (.bool (p x))) :
  FnV prog 88 [.str s,.fn g [] cap] (.int .i64 (Lib.idxFunc p true ⟨s.toArray⟩)):=by
 intro F w vs hF hv;obtain⟨v,r1,rfl,h1,hv⟩:=hv.cons_inv;obtain⟨v2,rfl,h2⟩:=hv.single_inv;simp only[VR] at h1 h2;subst h1;obtain⟨vf,vc,q1,q2,rfl⟩:=h2;rw[q1.nil_inv];refine(Tryz.strings_IndexFunc_grows g vc.toArray (fun args w=>he args w) p ⟨s.toArray⟩ w ?_).mono ?_
 ·intro W x hx hb;have hF':Fro F W:=fun b o e=>(hb.block b (Dl (hF b o e))).trans (hF b o e)
  have key:Calls prog g (Value.int .i32 x::vc).toArray W (fun e w'=>e = .returned (.bool (p x))∧Below W.heap.size W w'):=by
   refine(h x hx F W (.int .i32 x::vc) hF' (.cons (by simp only[VR]) q2)).mono ?_;rintro e w' ⟨v,he,hb',F',_,_,_,hr⟩;simp only[VR] at hr;subst hr;exact⟨he,hb'⟩
  have e:(#[Proofs.encR x]++vc.toArray)=(Value.int .i32 x::vc).toArray:=by apply Array.ext';simp[Proofs.encR]
  rw[e];exact key
 ·rintro e w' ⟨he,hb⟩;exact⟨_,he,hb,F,fun _ _ e=>e,fun b o e=>(hb.block b (Dl (hF b o e))).trans (hF b o e),fun _ _ e => .inl e,by simp only[VR]⟩
theorem Nh (s:List UInt8) (c:UInt8) (hl:s.length≤9223372036854775807):FnV prog 94 [.str s,.str [c]] (.bool (Be s c)):=by
 intro F w vs hF hv;obtain⟨v,r1,rfl,h1,hv⟩:=hv.cons_inv;obtain⟨v2,rfl,h2⟩:=hv.single_inv;simp only[VR] at h1 h2;subst h1 h2;refine(Y6w s c w hl).mono ?_;rintro e w' ⟨v,he,rfl,rfl⟩;exact⟨_,he,Below.refl _ _,F,fun _ _ e=>e,hF,fun _ _ e => .inl e,by simp only[VR]⟩
theorem X4y {l:List UInt8} (h:Bh l=true):0 < l.length:=by
 cases l with
 |nil=>exact absurd h (by decide)
 |cons a r=>simp
theorem Y3q {α:Type} {l:List α} (p:α→Bool):(l.any fun x => !p x) = !l.all p:=by
 induction l with
 |nil=>rfl
 |cons a r ih=>simp only[List.any_cons,List.all_cons,ih,Bool.not_and]
section
attribute [local irreducible] SW SO Bk
theorem Zm:∀s:List UInt8,Lib.trimLeftB s 32=Cc s
 |[]=>rfl
 |c::r=>by
  have ih:=Zm r;unfold Lib.trimLeftB at ih ⊢;unfold Cc;by_cases h:c=32
  ·simp[h,ih]
  ·simp[h]
theorem Y42 (s:List UInt8):FnV prog 221 [.str s,.str [32]] (.str (Cc s)):=by
 rw[←Zm];exact Yq s 32 (by decide)
theorem P3 (txt wd:List UInt8) (hl:txt.length≤8388608) :
  Gz prog 200 [(.ptr 0 0)] [(0,(.row [(.str txt),(.str wd)] 250))] 1 (.tup []) [(0,(.row [(.str ((Al txt).2)),(.str ((Al txt).1))] 250))]:=by
 have hsl:=R7 txt;refine Nj [] func200 rfl ntmps200 rfl rfl (by kernel_rfl) (by kernel_rfl) (by kernel_rfl) (fun B F hF=>?_);refine Uo 0 rfl (fun g y=>∃(m:Nat),m=Lc (Cc txt)∧m≤(Cc txt).length∧y=⟨[(0,(.ptr 0 0)),(2,(.int .i64 ((m:Int))))],[(0,(.row [(.str ((Cc txt))),(.str wd)] 250))],1⟩∧g=0) [0,2] 1 (by omega) (fun hJ0=>?_) ?_
 ·refine Ab (Aj ?_);refine Ex [] [0,2,3] (Ab ?_);refine Aj (An 0 [] [0,2,3] [] (hk 5 T2 (Y42 txt)<|hk0) v0 c0 ?_);refine Ab ?_
  obtain⟨b3,hb3⟩:∃b,b=(Be (Cc txt) 40):=⟨_,rfl⟩
  refine Ac (CS:=[(7,((!b3)=true→(!b3)=true)),(8,((!b3)=true→(!b3)=true)),(9,((!b3)=true→(!b3)=true)),(10,(!b3)=true→(!b3)=true),(11,(b3=false→(!b3)=true))]) [18,19,20,21] [0,2,3,23] [] (hk 4 Lq (Nh (Cc txt) 40 (by omega))<|hkg 10 (!b3) Lq (fun cg=>Nh (Cc txt) 41 (by omega))<|hk0) (vk 6 17 (a:=.bool (Be (Cc txt) 40)) (b:=.bool b3) (Imp.of_eq (by rw[hb3]))<|v0) (by refine cc _ ?_<|cc _ ?_<|cc _ ?_<|cc _ ?_<|cc _ ?_ c0<;>simp) ?_;refine A7 (q:=b3||(Be (Cc txt) 41)) (fun c1=>?_) fun c1=>?_
  ·subst hb3
   try simp only[Aq] at c1
   refine Aa [] [0,2] ?_;refine Ly ⟨rfl,_,(by kernel_rfl:gcS _ _ _=some ⟨[(0,(.ptr 0 0)),(2,(.int .i64 1))],[(0,(.row [(.str ((Cc txt))),(.str wd)] 250))],1⟩),_,1,?_,?_,(by kernel_rfl),rfl⟩
   ·exact(Q2n (by simpa using c1)).1.symm
   ·exact(Q2n (by simpa using c1)).2
  ·subst hb3
   try simp only[Aq] at c1
   refine Ae (Ab ?_);refine Au (B4 (fun g y=>∃(j o:Nat),j≤(Cc txt).length∧o≤j∧Dq (Cc txt) 0=j+Dq ((Cc txt).drop j) o∧y=⟨[(0,(.ptr 0 0)),(2,(.int .i64 ((j:Int)))),(3,(.int .i64 ((o:Int))))],[(0,(.row [(.str ((Cc txt))),(.str wd)] 250))],1⟩∧g=(Cc txt).length-j) [0,2,3] 1 _ (by omega) ⟨0,0,(by omega),(by omega),(by simp),(by kernel_rfl),rfl⟩ ?_);rintro g1 y1 ⟨j,o,f1_1,f1_2,f1_3,rfl,rfl⟩;refine Ab ?_
   obtain⟨b4,hb4⟩:∃b,b=(decide ((j:Int) < ((Cc txt).length:Int))):=⟨_,rfl⟩
   refine Ac (CS:=[(9,(b4=true→b4=true)),(10,(b4=true→b4=true)),(11,(b4=true→b4=true)),(13,(b4=true→(b4=true∧b4=true)∧(0≤(j:Int)∧j < (Cc txt).length))),(14,(b4=true→b4=true)),(15,(b4=true→b4=true))]) [32,33,34,35,36,37,38] [0,2,3,39] [] hk0 (vk 8 31 (a:=.bool (decide ((j:Int) < ((Cc txt).length:Int)))) (b:=.bool b4) (Imp.of_eq (by rw[hb4]))<|v0) (by refine cc _ ?_<|cc _ ?_<|cc _ ?_<|cc _ ?_<|cc _ ?_<|cc _ ?_ c0<;>(intros;simp_all;done)) ?_;refine A7 (q:=b4&&(!decide (((Af (Cc txt) j).toNat:Int)=32))) (fun c2=>?_) fun c2=>?_
   ·subst hb4
    try simp only[Aq] at c2
    refine Ae (Ab ?_);refine Au (Ac [] [0,2,3,47] [] hk0 v0 (cc 5 (p:=(0≤(j:Int)∧j < (Cc txt).length)) (by omega)<|c0) ?_);refine Au (Aa [] [0,2,3,47,48] ?_);refine A4 (p:=((Af (Cc txt) j).toNat:Int)=40) (fun c3=>?_) fun c3=>?_
    ·refine Aj (An 0 [] [0,2,3] [] hk0 v0 (cc 1 (p:=(-9223372036854775808≤(o:Int)+1∧(o:Int)+1≤9223372036854775807)) (by omega)<|c0) ?_);refine Aj (An 0 [] [0,2,3] [] hk0 v0 (cc 1 (p:=(-9223372036854775808≤(j:Int)+1∧(j:Int)+1≤9223372036854775807)) (by omega)<|c0) ?_);refine⟨by kernel_rfl,_,?_,(j+1),(o+1),?_,?_,?_,(by kernel_rfl),rfl⟩
     ·omega
     ·omega
     ·omega
     ·rw[f1_3,X1w ⟨by omega,c2.2⟩ c3];omega
    ·refine Aa [] [0,2,3,52] ?_;refine A4 (p:=((Af (Cc txt) j).toNat:Int)=41) (fun c4=>?_) fun c4=>?_
     ·refine Ab (Aa [] [0,2,3,55] ?_);refine A4 (p:=(o:Int)=0) (fun c5=>?_) fun c5=>?_
      ·refine Ly ⟨rfl,_,(by kernel_rfl:gcS _ _ _=some ⟨[(0,(.ptr 0 0)),(2,(.int .i64 ((j:Int))))],[(0,(.row [(.str ((Cc txt))),(.str wd)] 250))],1⟩),_,j,?_,?_,(by kernel_rfl),rfl⟩
       ·rw[Q2m (by simpa using c1),f1_3,X1v ⟨by omega,c2.2⟩ ⟨c4,by omega⟩];omega
       ·omega
      ·refine Ae ?_;refine Aj (An 0 [] [0,2,3] [] hk0 v0 (cc 1 (p:=(-9223372036854775808≤(o:Int)-1∧(o:Int)-1≤9223372036854775807)) (by omega)<|c0) ?_);refine Aj (An 0 [] [0,2,3] [] hk0 v0 (cc 1 (p:=(-9223372036854775808≤(j:Int)+1∧(j:Int)+1≤9223372036854775807)) (by omega)<|c0) ?_);refine⟨by kernel_rfl,_,?_,(j+1),(o-1),?_,?_,?_,(Eq.trans (b:=(⟨[(0,(.ptr 0 0)),(2,(.int .i64 ((j:Int)+1))),(3,(.int .i64 ((o:Int)-1)))],[(0,(.row [(.str ((Cc txt))),(.str wd)] 250))],1⟩:St)) (by kernel_rfl) (by rw[show(o:Int)-1=((o-1:Nat):Int) from by omega];rfl)),rfl⟩
       ·omega
       ·omega
       ·omega
       ·rw[f1_3,X1z ⟨by omega,c2.2⟩ c4 (by omega)];omega
     ·refine Ae ?_;refine Aj (An 0 [] [0,2,3] [] hk0 v0 (cc 1 (p:=(-9223372036854775808≤(j:Int)+1∧(j:Int)+1≤9223372036854775807)) (by omega)<|c0) ?_);refine⟨by kernel_rfl,_,?_,(j+1),o,?_,?_,?_,(by kernel_rfl),rfl⟩
      ·omega
      ·omega
      ·omega
      ·rw[f1_3,X1y ⟨by omega,c2.2⟩ c3 c4];omega
   ·subst hb4
    try simp only[Aq] at c2
    refine Br ?_;refine Ab (Up ?_);refine Re (y:=⟨[(0,(.ptr 0 0)),(2,(.int .i64 ((j:Int))))],[(0,(.row [(.str ((Cc txt))),(.str wd)] 250))],1⟩) [0,2] 1 (by omega) (by kernel_rfl) (hJ0 _ _ ⟨j,(by rw[Q2m (by simpa using c1),f1_3,X1x (by omega)];rfl),(by omega),(by kernel_rfl),rfl⟩)
 ·rintro g y ⟨m,fl0_1,fl0_2,rfl,rfl⟩;refine Hf (CS:=[(7,(0≤(0:Int)∧(0:Int)≤(m:Int)∧(m:Int)≤((Cc txt).length:Int))),(13,(0≤(m:Int)∧(m:Int)≤((Cc txt).length:Int)∧((Cc txt).length:Int)≤((Cc txt).length:Int)))]) [] [] [] hk0 v0 (by refine cc _ ?_<|cc _ ?_ c0<;>omega) ?_;refine E6 (.inr rfl) (al:=[]) (by kernel_rfl) ?_ ((by kernel_rfl:Di 1 _=some [(0,(.row [(.str (((Cc txt).take ((Cc txt).length)).drop m)),(.str (((Cc txt).take m).drop 0))] 250))]).trans ?_)
  ·rfl
  ·rw[Q2r,←fl0_1,List.take_length,List.drop_zero]
theorem R0 (txt wd:List UInt8) (hl:txt.length≤8388608) :
  Gz prog 222 [(.ptr 0 0)] [(0,(.row [(.str txt),(.str wd)] 250))] 1 (.str wd) [(0,(.row [(.str ((Al txt).2)),(.str ((Al txt).1))] 250))]:=by
 refine Nj [.tmp 2] func222 rfl ntmps222 rfl rfl (by kernel_rfl) (by kernel_rfl) (by kernel_rfl) (fun B F hF=>?_);refine Aa [] [0] ?_;refine Aa [] [0,3] (Ab ?_);refine Aj (A9 1 0 [] [3,8] [] hk0 v0 c0 ?_);refine Ew [0] (al:=[(.ptr 0 0)]) (al':=[(.ptr 0 0)]) (r:=(.tup [])) (r':=(.tup [])) (H:=[(0,(.row [(.str txt),(.str wd)] 250))]) (H':=[(0,(.row [(.str ((Al txt).2)),(.str ((Al txt).1))] 250))]) (by kernel_rfl) (by exact Ov) (by kernel_rfl) (by kernel_rfl) (by kernel_rfl) (by kernel_rfl) (by kernel_rfl) (P3 txt wd hl) hS (by kernel_rfl) pS (Bd ?_);refine Aa [] [2] (Ad ?_);refine E6 (.inl rfl) (al:=[(.str wd)]) (by kernel_rfl) ?_ ((by kernel_rfl:Di 1 _=some [(0,(.row [(.str ((Al txt).2)),(.str ((Al txt).1))] 250))]).trans ?_)
 ·rfl
 ·rfl
theorem X4q  :
  FnV prog 202 [(.bool true)] (.tup []):=by
 refine Ax [] func202 ntmps202 fun B F hF=>?_;refine Aa [] [3] (Cy ?_);refine Ae (RK wN [] ?_);exact Same.of_eq (by first|rfl|(simp only[Ag];simp_all))
end
section
attribute [local irreducible] SW SO Bk SZ
theorem Gt:Ai prog 202:=Am func202
theorem Hu:Ai prog 201:=Am func201
theorem Ov:Ai prog 200:=Am func200
theorem Qx:Ai prog 222:=Am func222
abbrev Rd:=DepT × List UInt8 × List UInt8
abbrev Rds:=List DepT × List UInt8 × List UInt8
def N8 (t w:List UInt8):Option Rd:=if Bh w=true then some (if 0 < Bs signsL (Al t).1 0 then (.mk 1 w (Bs signsL (Al t).1 0) (Al (Al t).2).1 [],(Al (Al (Al t).2).2).2,(Al (Al (Al t).2).2).1) else (.mk 1 w 0 [] [],(Al t).2,(Al t).1)) else none
def Gq (one:List UInt8→List UInt8→Option Rd) (v:List UInt8):Nat→List DepT→List UInt8→List UInt8→Option Rds
 |0,_,_,_=>none
 |k+1,l,t,w=>if w=v then (if l.length=1∨¬v=[105,102]∧¬v=[119,105,116,104,111,117,116] then (match one (Al t).2 (Al t).1 with
   |none=>none
   |some (d,t',w')=>Gq one v k (l++[d]) t' w') else none) else some (l,t,w)
def I3 (one:List UInt8→List UInt8→Option Rd) (v:List UInt8):Option Rds→Option Rds
 |none=>none
 |some (l,t,w)=>if v=[105,102]∧w=[101,108,115,101] then (match one (Al t).2 (Al t).1 with
   |none=>none
   |some (d,t',w')=>some (l++[d],t',w')) else some (l,t,w)
def Lo (v:List UInt8):Option Rds→Option Rd
 |none=>none
 |some (l,t,w)=>if w=[41] then some (.mk (Bs Bv v 0) [] 0 [] l,(Al t).2,(Al t).1) else none
def N2 (one:List UInt8→List UInt8→Option Rd) (n:Nat):Option Rd→Option Rd
 |none=>none
 |some (d,t,w)=>if ¬w=[]∧0 < Bs Bv w 0 then Lo w (I3 one w (Gq one w n [d] t w)) else none
def Cz:Nat→List UInt8→List UInt8→Option Rd
 |0,_,_=>none
 |n+1,t,w=>if w=[40] then N2 (Cz n) n (Cz n (Al t).2 (Al t).1) else N8 t w
def Ux (one:List UInt8→List UInt8→Option Rd):Prop:=∀(t w:List UInt8) (a:Rd),one t w=some a→a.2.1.length+a.2.2.length≤t.length∧a.1.size+2*(a.2.1.length+a.2.2.length)≤2*(t.length+w.length)∧1≤w.length
theorem Q7q (l:List DepT) (d:DepT):argsSize (l++[d])=argsSize l+d.size:=by
 induction l with
 |nil=>simp only[List.nil_append,argsSize];omega
 |cons x r ih=>simp only[List.cons_append,argsSize,ih];omega
theorem X4x:Ux N8:=by
 intro t w a h;have h1:=Gp t;have h2:=Gp (Al t).2;have h3:=Gp (Al (Al t).2).2;unfold N8 at h;split at h
 ·rename_i hb
  have hw:1≤w.length:=by
   cases w with
   |nil=>exact absurd hb (by decide)
   |cons c r=>simp
  cases h;split
  ·simp only[DepT.size,argsSize];exact⟨by omega,by omega,hw⟩
  ·simp only[DepT.size,argsSize,List.length_nil];exact⟨by omega,by omega,hw⟩
 ·cases h
theorem Q3b {one:List UInt8→List UInt8→Option Rd} (ho:Ux one) {v:List UInt8}:∀(k:Nat) (l:List DepT) (t w:List UInt8) {a:Rds},Gq one v k l t w=some a→a.2.1.length+a.2.2.length≤t.length+w.length∧argsSize a.1+2*(a.2.1.length+a.2.2.length)≤argsSize l+2*(t.length+w.length)
 |0,l,t,w,a,h=>by cases h
 |k+1,l,t,w,a,h=>by
  have h1:=Gp t;unfold Gq at h;split at h
  ·split at h
   ·split at h
    ·cases h
    ·rename_i d t' w' hd;have h2:=ho _ _ _ hd;have h3:=Q3b ho k _ _ _ h;rw[Q7q] at h3;simp only at h2 h3;exact⟨by omega,by omega⟩
   ·cases h
  ·cases h;exact⟨Nat.le_refl _,Nat.le_refl _⟩
theorem Y1t {one:List UInt8→List UInt8→Option Rd} (ho:Ux one) {v:List UInt8} {l:List DepT} {t w:List UInt8} {a:Rds} (h:I3 one v (some (l,t,w))=some a):a.2.1.length+a.2.2.length≤t.length+w.length∧argsSize a.1+2*(a.2.1.length+a.2.2.length)≤argsSize l+2*(t.length+w.length):=by
 have h1:=Gp t;simp only[I3] at h;split at h
 ·split at h
  ·cases h
  ·rename_i d t' w' hd;have h2:=ho _ _ _ hd;cases h;simp only at h2 ⊢;rw[Q7q];exact⟨by omega,by omega⟩
 ·cases h;exact⟨Nat.le_refl _,Nat.le_refl _⟩
theorem P0:∀n,Ux (Cz n)
 |0=>fun t w a h=>by cases h
 |n+1=>fun t w a h=>by
  have h1:=Gp t;rw[Cz] at h;split at h
  ·rename_i hw;subst hw;unfold N2 at h;split at h
   ·cases h
   ·rename_i d t1 w1 hd;have h2:=P0 n _ _ _ hd;split at h
    ·cases hm:Gq (Cz n) w1 n [d] t1 w1 with
     |none=>rw[hm] at h;cases h
     |some b =>
      obtain⟨l,t2,w2⟩:=b;have h3:=Q3b (P0 n) _ _ _ _ hm;rw[hm] at h
      cases he:I3 (Cz n) w1 (some (l,t2,w2)) with
      |none=>simp[he,Lo] at h
      |some c =>
       obtain⟨l',t3,w3⟩:=c;have h4:=Y1t (P0 n) he;have h5:=Gp t3;rw[he] at h;simp only[Lo] at h;split at h
       ·rename_i hw3;cases h;simp only[argsSize,DepT.size,List.length_nil,List.length_singleton] at *;subst hw3;simp only[List.length_singleton] at *;exact⟨by omega,by omega,Nat.le_refl _⟩
       ·cases h
    ·cases h
  ·exact X4x _ _ _ h
theorem V7 {n:Nat} {t w t' w':List UInt8} {d:DepT} (h:Cz n t w=some (d,t',w')):t'.length+w'.length≤t.length:=(P0 n _ _ _ h).1
theorem Mm (b:Bool) (h:b=true):FnV prog 202 [.bool b] (.tup []):=by rw[h];exact X4q
theorem Mn (b:Bool) (h:b=false):Y2 prog C0 202 [.bool b] [] 0:=fun B0 φ w vs hr hv=>by
 obtain⟨v,rfl,h1⟩:=hv.single_inv;simp only[VR] at h1;subst h1;refine(X4r b w).mono ?_;rintro e w' (⟨v,rfl,h2,_⟩|⟨rfl,_,rfl⟩)
 ·rw[h] at h2;cases h2
 ·exact Pan.pan ⟨φ,⟨⟨rfl,rfl,rfl,Nat.le_refl _,fun _ _=>rfl⟩,hr.fro,fun b o q=>(by cases q),fun b b' o o' k q=>(by cases q),fun b o k q=>(by cases q)⟩,fun _ _ _ q=>q,fun _ _ q=>q,fun _ _ q => .inl q⟩
theorem X5w {one:List UInt8→List UInt8→Option Rd} {v:List UInt8} {k:Nat} {l:List DepT} {t w:List UInt8} (hk:0 < k) (hw:w=v) (h:¬(l.length=1∨¬v=[105,102]∧¬v=[119,105,116,104,111,117,116])):Gq one v k l t w=none:=by
 obtain⟨j,rfl⟩:∃j,k=j+1:=⟨k-1,by omega⟩
 rw[Gq,if_pos hw,if_neg h]
theorem Q3a {one:List UInt8→List UInt8→Option Rd} {v:List UInt8} {k:Nat} {l:List DepT} {t w:List UInt8} (hk:0 < k) (hw:w=v) (h:l.length=1∨¬v=[105,102]∧¬v=[119,105,116,104,111,117,116]) (e:one (Al t).2 (Al t).1=none):Gq one v k l t w=none:=by
 obtain⟨j,rfl⟩:∃j,k=j+1:=⟨k-1,by omega⟩
 rw[Gq,if_pos hw,if_pos h,e]
theorem X5x {one:List UInt8→List UInt8→Option Rd} {v:List UInt8} {k:Nat} {l:List DepT} {t w t' w':List UInt8} {d:DepT} (hk:0 < k) (hw:w=v) (h:l.length=1∨¬v=[105,102]∧¬v=[119,105,116,104,111,117,116]) (e:one (Al t).2 (Al t).1=some (d,t',w')):Gq one v k l t w=Gq one v (k-1) (l++[d]) t' w':=by
 obtain⟨j,rfl⟩:∃j,k=j+1:=⟨k-1,by omega⟩
 rw[Gq,if_pos hw,if_pos h,e];rfl
theorem X5y {one:List UInt8→List UInt8→Option Rd} {v:List UInt8} {k:Nat} {l:List DepT} {t w:List UInt8} (hk:0 < k) (hw:¬w=v):Gq one v k l t w=some (l,t,w):=by
 obtain⟨j,rfl⟩:∃j,k=j+1:=⟨k-1,by omega⟩
 rw[Gq,if_neg hw]
theorem Q6f {one:List UInt8→List UInt8→Option Rd} {v:List UInt8} {l:List DepT} {t w:List UInt8} (h:v=[105,102]∧w=[101,108,115,101]) (e:one (Al t).2 (Al t).1=none):I3 one v (some (l,t,w))=none:=by rw[I3,if_pos h,e]
theorem Y1r {one:List UInt8→List UInt8→Option Rd} {v:List UInt8} {l:List DepT} {t w t' w':List UInt8} {d:DepT} (h:v=[105,102]∧w=[101,108,115,101]) (e:one (Al t).2 (Al t).1=some (d,t',w')):I3 one v (some (l,t,w))=some (l++[d],t',w'):=by rw[I3,if_pos h,e]
theorem Y1s {one:List UInt8→List UInt8→Option Rd} {v:List UInt8} {l:List DepT} {t w:List UInt8} (h:¬v=[105,102]∨¬w=[101,108,115,101]):I3 one v (some (l,t,w))=some (l,t,w):=by rw[I3,if_neg fun q=>h.elim (fun k=>k q.1) fun k=>k q.2]
theorem Q29 {m:Int} {n:Nat} {p q:Prop} [Decidable p] [Decidable q] {x:Bool} (e:m=n) (h:(decide (m=1)||(!decide p&&!decide q))=x):(x=true→n=1∨¬p∧¬q)∧(x=false→¬(n=1∨¬p∧¬q)):=by
 subst e h;by_cases h1:n=1<;>by_cases hp:p<;>by_cases hq:q<;>simp[h1,hp,hq]<;>omega
theorem Y3e (l:List DepT) (d:DepT):Imp (.row 5 (l.map Aw++[Aw d]).length (fun i=>(l.map Aw++[Aw d]).getD i Bl)) (.row 5 (l++[d]).length (depAt (l++[d]))):=by
 rw[show l.map Aw++[Aw d]=(l++[d]).map Aw by simp];exact(Imp.list (f:=Aw) (List.length_map Aw)).trans (Ko _)
theorem X38 (n:Nat) (t w:List UInt8) (hm:t.length+w.length < n+1) (hn:n≤8388608) (ih:∀t w:List UInt8,t.length+w.length < n→CallZ prog C0 201 [.ptr 0 0] [(0,.row [.str t,.str w] 250)] 1 (Cz n t w) (fun a=>Aw a.1) (fun a=>[(0,.row [.str a.2.1,.str a.2.2] 250)])) :
  CallZ prog C0 201 [(.ptr 0 0)] [(0,(.row [(.str t),(.str w)] 250))] 1 (Cz (n+1) t w) (fun a=>Aw a.1) (fun a=>[(0,.row [.str a.2.1,.str a.2.2] 250)]):=by
 have hL0:=Gp t;have hL1:=Gp (Al t).2;have hL2:=Gp (Al (Al t).2).2;refine Y67 [.cell 2 86] func201 rfl ntmps201 rfl rfl (by kernel_rfl) (by kernel_rfl) (fun a=>by kernel_rfl) (fun B F hF=>?_);refine Aa [] [0,2] (Ab ?_);refine Aj (A9 1 0 [] [0,2,8] [] hk0 v0 c0 ?_);refine Ew [0] (al:=[(.ptr 0 0)]) (al':=[(.ptr 0 0)]) (r:=(.str w)) (r':=(.str w)) (H:=[(0,(.row [(.str t),(.str w)] 250))]) (H':=[(0,(.row [(.str ((Al t).2)),(.str ((Al t).1))] 250))]) (by kernel_rfl) (by exact Qx) (by kernel_rfl) (by kernel_rfl) (by kernel_rfl) (by kernel_rfl) (by kernel_rfl) (R0 t w (by omega)) hS (by kernel_rfl) pS (An 2 [] [0,2,3] [] hk0 v0 c0 ?_);refine Ab (Aa [] [0,2,3,11] ?_);refine C7 (p:=w=[40]) (fun c1=>?_) fun c1=>?_
 ·have hw:¬w=[40]:=c1;refine Ab ?_;refine Aj (A9 2 0 [] [0,2,3,13] [] (hk 1 Lr (Pd w (by omega))<|hk0) v0 c0 ?_);refine I6 (Bh w) (fun hz1=>?_) (fun hz1=>H0 [] (by exact Gt) (Mn (Bh w) hz1) (fun _ _=>show C0=C0∧Cz (n+1) t w=none from ⟨rfl,by rw[Cz,if_neg hw,N8,if_neg (by rw[hz1];simp)]⟩));have hnm:=hz1;refine Lz (al:=[(.bool (Bh w))]) (r:=(.tup [])) (by kernel_rfl) (by exact Gt) (by kernel_rfl) (by kernel_rfl) (Mm (Bh w) hz1) pS ?_;refine Bd (Aa [] [0,2,4] ?_);refine Ab (Da [] [0,2,4,5] [] (hk 0 Xf Z5<|hk 5 T6 ((Ww signsL ((Al t).1) (by decide)))<|hk0) v0 c0 ?_);refine Aa [] [0,2,4,5,24] ?_;refine A4 (p:=0 < (Bs signsL ((Al t).1) 0)) (fun c2=>?_) fun c2=>?_
  ·refine Ab (Aj ?_);refine A9 1 0 [] [0,2,4,5,25] [] hk0 v0 c0 (Ew [0] (al:=[(.ptr 0 0)]) (al':=[(.ptr 0 0)]) (r:=(.tup [])) (r':=(.tup [])) (H:=[(0,(.row [(.str ((Al t).2)),(.str ((Al t).1))] 250))]) (H':=[(0,(.row [(.str ((Al ((Al t).2)).2)),(.str ((Al ((Al t).2)).1))] 250))]) (by kernel_rfl) (by exact Ov) (by kernel_rfl) (by kernel_rfl) (by kernel_rfl) (by kernel_rfl) (by kernel_rfl) (P3 ((Al t).2) ((Al t).1) (by omega)) hS (by kernel_rfl) pS ?_);refine Bd (Aj ?_);refine A9 2 0 [] [2,4,27,28] [] hk0 v0 c0 (Ew [0] (al:=[(.ptr 0 0)]) (al':=[(.ptr 0 0)]) (r:=(.str ((Al ((Al t).2)).1))) (r':=(.str ((Al ((Al t).2)).1))) (H:=[(0,(.row [(.str ((Al ((Al t).2)).2)),(.str ((Al ((Al t).2)).1))] 250))]) (H':=[(0,(.row [(.str ((Al ((Al ((Al t).2)).2)).2)),(.str ((Al ((Al ((Al t).2)).2)).1))] 250))]) (by kernel_rfl) (by exact Qx) (by kernel_rfl) (by kernel_rfl) (by kernel_rfl) (by kernel_rfl) (by kernel_rfl) (R0 ((Al ((Al t).2)).2) ((Al ((Al t).2)).1) (by omega)) hS (by kernel_rfl) pS ?_);refine An 3 [] [2,4] [] hk0 v0 c0 ?_
   refine Ac [] [2] [] hk0 (vk 1 32 (a:=(.agg [(.int .i64 1),(.str w),(.int .i64 (Bs signsL ((Al t).1) 0)),(.str ((Al ((Al t).2)).1)),.nils])) (b:=(.agg [(.int .i64 ((DepT.mk 1 w (Bs signsL ((Al t).1) 0) ((Al ((Al t).2)).1) []).kind)),(.str ((DepT.mk 1 w (Bs signsL ((Al t).1) 0) ((Al ((Al t).2)).1) []).name)),(.int .i64 ((DepT.mk 1 w (Bs signsL ((Al t).1) 0) ((Al ((Al t).2)).1) []).op)),(.str ((DepT.mk 1 w (Bs signsL ((Al t).1) 0) ((Al ((Al t).2)).1) []).evr)),(.row 5 (DepT.mk 1 w (Bs signsL ((Al t).1) 0) ((Al ((Al t).2)).1) []).args.length (depAt (DepT.mk 1 w (Bs signsL ((Al t).1) 0) ((Al ((Al t).2)).1) []).args))])) ((Imp.aggs (ImpL.cons Imp.refl (ImpL.cons Imp.refl (ImpL.cons Imp.refl (ImpL.cons Imp.refl (ImpL.cons (Imp.nil.trans (Ko [])) ImpL.nil)))))))<|v0) c0 ?_;refine Ad ?_
   refine Sh (ch:=C0) (DepT.mk 1 w (Bs signsL (Al t).1 0) (Al (Al t).2).1 [],(Al (Al (Al t).2).2).2,(Al (Al (Al t).2).2).1) ?_ wR (al:=[(.agg [(.int .i64 ((DepT.mk 1 w (Bs signsL ((Al t).1) 0) ((Al ((Al t).2)).1) []).kind)),(.str ((DepT.mk 1 w (Bs signsL ((Al t).1) 0) ((Al ((Al t).2)).1) []).name)),(.int .i64 ((DepT.mk 1 w (Bs signsL ((Al t).1) 0) ((Al ((Al t).2)).1) []).op)),(.str ((DepT.mk 1 w (Bs signsL ((Al t).1) 0) ((Al ((Al t).2)).1) []).evr)),(.row 5 (DepT.mk 1 w (Bs signsL ((Al t).1) 0) ((Al ((Al t).2)).1) []).args.length (depAt (DepT.mk 1 w (Bs signsL ((Al t).1) 0) ((Al ((Al t).2)).1) []).args))])]) (by kernel_rfl) ?_ ((by kernel_rfl:Di 1 _=some [(0,(.row [(.str ((Al ((Al ((Al t).2)).2)).2)),(.str ((Al ((Al ((Al t).2)).2)).1))] 250))]).trans ?_)
   ·rw[Cz,if_neg hw,N8,if_pos hnm,if_pos c2]
   ·rfl
   ·rfl
  ·refine Ae (Ac [] [2] [] hk0 (vk 1 32 (a:=(.agg [(.int .i64 1),(.str w),(.int .i64 0),(.str []),.nils])) (b:=(.agg [(.int .i64 ((DepT.mk 1 w 0 [] []).kind)),(.str ((DepT.mk 1 w 0 [] []).name)),(.int .i64 ((DepT.mk 1 w 0 [] []).op)),(.str ((DepT.mk 1 w 0 [] []).evr)),(.row 5 (DepT.mk 1 w 0 [] []).args.length (depAt (DepT.mk 1 w 0 [] []).args))])) ((Imp.aggs (ImpL.cons Imp.refl (ImpL.cons Imp.refl (ImpL.cons Imp.refl (ImpL.cons Imp.refl (ImpL.cons (Imp.nil.trans (Ko [])) ImpL.nil)))))))<|v0) c0 ?_);refine Ad ?_;refine Sh (ch:=C0) (DepT.mk 1 w 0 [] [],(Al t).2,(Al t).1) ?_ wR (al:=[(.agg [(.int .i64 ((DepT.mk 1 w 0 [] []).kind)),(.str ((DepT.mk 1 w 0 [] []).name)),(.int .i64 ((DepT.mk 1 w 0 [] []).op)),(.str ((DepT.mk 1 w 0 [] []).evr)),(.row 5 (DepT.mk 1 w 0 [] []).args.length (depAt (DepT.mk 1 w 0 [] []).args))])]) (by kernel_rfl) ?_ ((by kernel_rfl:Di 1 _=some [(0,(.row [(.str ((Al t).2)),(.str ((Al t).1))] 250))]).trans ?_)
   ·rw[Cz,if_neg hw,N8,if_pos hnm,if_neg c2]
   ·rfl
   ·rfl
 ·have hw:w=[40]:=c1
  have hwl:w.length=1:=by rw[hw];rfl
  refine Ae (Ab ?_);refine Aj (A9 1 0 [] [0,2,33] [] hk0 v0 c0 ?_);refine Sy (Cz n ((Al t).2) ((Al t).1)) (fun hz2=>H0 [0] (by exact Hu) ((ih ((Al t).2) ((Al t).1) (by omega)).no hz2) (fun _ _=>show C0=C0∧Cz (n+1) t w=none from ⟨rfl,by rw[Cz,if_pos hw,hz2];rfl⟩)) (fun⟨d0,t1,w1⟩ hz2=>?_);have hle:=V7 hz2;have hL3:=Gp t1
  have hpar:Cz (n+1) t w=N2 (Cz n) n (some (d0,t1,w1)):=by rw[Cz,if_pos hw,hz2]
  refine Ew [0] (al:=[(.ptr 0 0)]) (al':=[(.ptr 0 0)]) (r:=(.agg [(.int .i64 d0.kind),(.str d0.name),(.int .i64 d0.op),(.str d0.evr),(.row 5 d0.args.length (depAt d0.args))])) (r':=(.agg [(.int .i64 d0.kind),(.str d0.name),(.int .i64 d0.op),(.str d0.evr),(.row 5 d0.args.length (depAt d0.args))])) (H:=[(0,(.row [(.str ((Al t).2)),(.str ((Al t).1))] 250))]) (H':=[(0,(.row [(.str t1),(.str w1)] 250))]) (by kernel_rfl) (by exact Hu) (by kernel_rfl) (by kernel_rfl) (by kernel_rfl) (by kernel_rfl) (by kernel_rfl) ((ih ((Al t).2) ((Al t).1) (by omega)).yes hz2) hS (by kernel_rfl) pS ?_;refine A9 1 2 [] [0,2,35] [] hk0 v0 c0 ?_;refine Y49 86 5 35 (by kernel_rfl) yS (An 3 [] [0,2,6] [] hk0 v0 c0 ?_);refine Aa [] [0,2,6,7] (Ab ?_);refine Aj (A9 2 0 [] [0,2,6,7,42] [] hk0 v0 c0 ?_);refine I6 (!decide (w1=[])) (fun hz3=>?_) (fun hz3=>H0 [] (by exact Gt) (Mn (!decide (w1=[])) hz3) (fun _ _=>show C0=C0∧Cz (n+1) t w=none from ⟨rfl,by rw[hpar,N2,if_neg (fun q=>q.1 (by simpa using hz3))]⟩))
  have hne:¬w1=[]:=by simpa using hz3
  have hwl1:1≤w1.length:=List.length_pos_iff.2 hne;refine Lz (al:=[(.bool (!decide (w1=[])))]) (r:=(.tup [])) (by kernel_rfl) (by exact Gt) (by kernel_rfl) (by kernel_rfl) (Mm (!decide (w1=[])) hz3) pS ?_;refine Bd (Ac [] [0,2,6,7] [] (hk 0 Xe Zf<|hk 2 T6 ((Ww Bv w1 (by decide)))<|hk0) v0 c0 ?_);refine Ab ?_;refine Aj (A9 3 0 [] [0,2,6,7,50] [] hk0 v0 c0 ?_);refine I6 (decide (0 < (Bs Bv w1 0))) (fun hz4=>?_) (fun hz4=>H0 [] (by exact Gt) (Mn (decide (0 < (Bs Bv w1 0))) hz4) (fun _ _=>show C0=C0∧Cz (n+1) t w=none from ⟨rfl,by rw[hpar,N2,if_neg (fun q=>absurd q.2 (of_decide_eq_false hz4))]⟩));have hkd:0 < Bs Bv w1 0:=of_decide_eq_true hz4;refine Lz (al:=[(.bool (decide (0 < (Bs Bv w1 0))))]) (r:=(.tup [])) (by kernel_rfl) (by exact Gt) (by kernel_rfl) (by kernel_rfl) (Mm (decide (0 < (Bs Bv w1 0))) hz4) pS ?_;refine Bd ?_;refine Ab (Au ?_)
  refine B4 (fun g y=>∃(k:Nat) (l:List DepT) (tt ww:List UInt8),tt.length+ww.length < k∧k≤n∧1≤l.length∧l.length+(tt.length+ww.length)≤n+1∧Cz (n+1) t w=Lo w1 (I3 (Cz n) w1 (Gq (Cz n) w1 k l tt ww))∧y=⟨[(0,(.ptr 0 0)),(2,(.ptr 1 0)),(6,(.ptr 4 0)),(7,(.str w1))],[(0,(.row [(.str tt),(.str ww)] 250)),(1,(.row [(.int .i64 0),(.str []),(.int .i64 0),(.str []),.nils] 86)),(3,(.grow (l.map Aw) 86 5)),(4,(.row [(.int .i64 (Bs Bv w1 0)),(.str []),(.int .i64 0),(.str []),(.own 3)] 86))],5⟩∧g=k+1) [0,2,6,7] 5 _ (by omega) ⟨n,[d0],t1,w1,(by omega),(by omega),(by simp),(by simp;omega),(by rw[hpar,N2,if_pos ⟨hne,hkd⟩]),(by kernel_rfl),rfl⟩ ?_;rintro g1 y1 ⟨k,l,tt,ww,hk1,hk2,hl1,hl2,hq,rfl,rfl⟩;have hLt:=Gp tt;have hml:(l.map Aw).length=l.length:=List.length_map Aw;refine Ab (Aa [] [0,2,6,7,57] ?_);refine A4 (p:=ww=w1) (fun c3=>?_) fun c3=>?_
  ·have hwe:ww.length=w1.length:=by rw[c3]
   refine Ae ?_;refine Au (Ab ?_);refine Aj (A9 (CS:=[(6,((!(decide (((l.map Aw).length:Int)=1)))=true→(!(decide (((l.map Aw).length:Int)=1)))=true)),(7,((!(decide (((l.map Aw).length:Int)=1)))=true→(!(decide (((l.map Aw).length:Int)=1)))=true)),(9,(((!(decide (((l.map Aw).length:Int)=1)))&&(!decide (w1=[105,102])))=true→((!(decide (((l.map Aw).length:Int)=1)))&&(!decide (w1=[105,102])))=true)),(10,((!(decide (((l.map Aw).length:Int)=1)))=true→((!(decide (((l.map Aw).length:Int)=1)))=true)∧((!decide (w1=[105,102]))=true→((!(decide (((l.map Aw).length:Int)=1)))&&(!decide (w1=[105,102])))=true))),(11,((decide (((l.map Aw).length:Int)=1))=false→(!(decide (((l.map Aw).length:Int)=1)))=true))]) 12 0 [63,64,65,66,67,68] [0,2,6,7,69] [] hk0 v0 (by refine cc _ ?_<|cc _ ?_<|cc _ ?_<|cc _ ?_<|cc _ ?_ c0<;>(intros;simp_all;done)) ?_)
   refine I6 ((decide (((l.map Aw).length:Int)=1))||((!decide (w1=[105,102]))&&(!decide (w1=[119,105,116,104,111,117,116])))) (fun hz5=>?_) (fun hz5=>H0 [] (by exact Gt) (Mn ((decide (((l.map Aw).length:Int)=1))||((!decide (w1=[105,102]))&&(!decide (w1=[119,105,116,104,111,117,116])))) hz5) (fun _ _=>show C0=C0∧Cz (n+1) t w=none from ⟨rfl,by rw[hq,X5w (by omega) c3 ((Q29 (by omega) hz5).2 rfl)];rfl⟩));have hok:=(Q29 (n:=l.length) (by omega) hz5).1 rfl;refine Lz (al:=[(.bool ((decide (((l.map Aw).length:Int)=1))||((!decide (w1=[105,102]))&&(!decide (w1=[119,105,116,104,111,117,116])))))]) (r:=(.tup [])) (by kernel_rfl) (by exact Gt) (by kernel_rfl) (by kernel_rfl) (Mm ((decide (((l.map Aw).length:Int)=1))||((!decide (w1=[105,102]))&&(!decide (w1=[119,105,116,104,111,117,116])))) hz5) pS ?_;refine Bd (Ab ?_);refine Aj (A9 1 0 [] [0,2,6,7,71] [] hk0 v0 c0 ?_)
   refine Ew [0] (al:=[(.ptr 0 0)]) (al':=[(.ptr 0 0)]) (r:=(.tup [])) (r':=(.tup [])) (H:=[(0,(.row [(.str tt),(.str ww)] 250))]) (H':=[(0,(.row [(.str ((Al tt).2)),(.str ((Al tt).1))] 250))]) (by kernel_rfl) (by exact Ov) (by kernel_rfl) (by kernel_rfl) (by kernel_rfl) (by kernel_rfl) (by kernel_rfl) (P3 tt ww (by omega)) hS (by kernel_rfl) pS (Bd ?_);refine Sy (Cz n ((Al tt).2) ((Al tt).1)) (fun hz6=>?_) (fun⟨d1,t2,w2⟩ hz6=>?_)
   ·refine Q8u (by kernel_rfl) ?_;refine Un 0 (Un 2 ?_);refine Q8q 1 3 (by kernel_rfl) rfl rfl ?_ ?_
    ·refine Ex [] [75] (Q8r 3 (by kernel_rfl) rfl ?_);exact H0 [0] (by exact Hu) ((ih ((Al tt).2) ((Al tt).1) (by omega)).no hz6) (fun _ _=>show C0=C0∧Cz (n+1) t w=none from ⟨rfl,by rw[hq,Q3a (by omega) c3 hok hz6];rfl⟩)
    ·exact H0 [0] (by exact Hu) ((ih ((Al tt).2) ((Al tt).1) (by omega)).no hz6) (fun _ _=>show C0=C0∧Cz (n+1) t w=none from ⟨rfl,by rw[hq,Q3a (by omega) c3 hok hz6];rfl⟩)
   ·have hle2:=V7 hz6;have hq2:=hz6;refine E5 (by kernel_rfl) (fun F1 hF1=>?_);refine Ci false 3 (lsD 8 [0,1,2,3,4]) ⟨[(0,(.ptr 0 0)),(2,(.ptr 1 0)),(6,(.ptr 4 0)),(7,(.str w1)),(74,(.own 3)),(77,(.sl 5 0 1 1 false))],[(0,(.row [(.str t2),(.str w2)] 250)),(1,(.row [(.int .i64 0),(.str []),(.int .i64 0),(.str []),.nils] 86)),(3,(.grow (l.map Aw) 86 5)),(4,(.row [(.int .i64 (Bs Bv w1 0)),(.str []),(.int .i64 0),(.str []),(.own 3)] 86)),(5,(.row [(.int .i64 d1.kind),(.str d1.name),(.int .i64 d1.op),(.str d1.evr),(.row 5 d1.args.length (depAt d1.args))] 86))],6⟩ ?_ (fun m1_1=>?_)
    ·refine C8 (fuel:=2) 5 [] (hold (p:=(((l.map Aw).length+1)*72≤140737488355328)) (by omega)) ?_;refine Cb (fuel:=1) [] [6] [0,2,6,7,78,79] Ap (C8 (fuel:=0) 7 [] Ap ?_);refine Ao [0,2,6,7] (Ek (by kernel_rfl) ?_);refine⟨by kernel_rfl,_,?_,(k-1),(l++[d1]),t2,w2,?_,?_,?_,?_,?_,(by rw[show(l++[d1]).map Aw=l.map Aw++[Aw d1] from by rw[List.map_append];rfl]<;>kernel_rfl),rfl⟩
     ·omega
     ·omega
     ·omega
     ·simp
     ·rw[List.length_append,List.length_singleton];omega
     ·rw[hq,X5x (by omega) c3 hok hq2]
    refine Ci false 4 (lsD 8 [0,1,2,3]) ⟨[(0,(.ptr 0 0)),(2,(.ptr 1 0)),(6,(.ptr 4 0)),(7,(.str w1)),(74,(.own 3)),(76,(.agg [(.int .i64 d1.kind),(.str d1.name),(.int .i64 d1.op),(.str d1.evr),(.row 5 d1.args.length (depAt d1.args))]))],[(0,(.row [(.str t2),(.str w2)] 250)),(1,(.row [(.int .i64 0),(.str []),(.int .i64 0),(.str []),.nils] 86)),(3,(.grow (l.map Aw) 86 5)),(4,(.row [(.int .i64 (Bs Bv w1 0)),(.str []),(.int .i64 0),(.str []),(.own 3)] 86))],5⟩ ?_ (fun m1_2=>?_)
    ·refine C8 (fuel:=3) 4 [] Ap (Ao [0,2,6,7,74,77] ?_);exact A6 m1_1
    refine Cb (fuel:=6) [] [0,2] [0,2,6,7,73,75] Ap ?_;refine Cl 1 3 (by kernel_rfl) ?_ ?_
    ·refine A8 (fuel:=5) 1 [] Ap ?_;refine Ao [0,2,6,7,74,75] (C6 (fuel:=4) 3 (by kernel_rfl) ?_);refine Ce (fuel:=4) 3 rfl (Ew [0] (al:=[(.ptr 0 0)]) (al':=[(.ptr 0 0)]) (r:=(.agg [(.int .i64 d1.kind),(.str d1.name),(.int .i64 d1.op),(.str d1.evr),(.row 5 d1.args.length (depAt d1.args))])) (r':=(.agg [(.int .i64 d1.kind),(.str d1.name),(.int .i64 d1.op),(.str d1.evr),(.row 5 d1.args.length (depAt d1.args))])) (H:=[(0,(.row [(.str ((Al tt).2)),(.str ((Al tt).1))] 250))]) (H':=[(0,(.row [(.str t2),(.str w2)] 250))]) (by kernel_rfl) (by exact Hu) (by kernel_rfl) (by kernel_rfl) (by kernel_rfl) (by kernel_rfl) (by kernel_rfl) ((ih ((Al tt).2) ((Al tt).1) (by omega)).yes hz6) hS (by kernel_rfl) pS ?_);refine Bd ⟨rfl,?_⟩;refine Ao [0,2,6,7,74,76] ?_;exact A6 m1_2
    ·refine Ce (fuel:=5) 3 rfl (Ew [0] (al:=[(.ptr 0 0)]) (al':=[(.ptr 0 0)]) (r:=(.agg [(.int .i64 d1.kind),(.str d1.name),(.int .i64 d1.op),(.str d1.evr),(.row 5 d1.args.length (depAt d1.args))])) (r':=(.agg [(.int .i64 d1.kind),(.str d1.name),(.int .i64 d1.op),(.str d1.evr),(.row 5 d1.args.length (depAt d1.args))])) (H:=[(0,(.row [(.str ((Al tt).2)),(.str ((Al tt).1))] 250))]) (H':=[(0,(.row [(.str t2),(.str w2)] 250))]) (by kernel_rfl) (by exact Hu) (by kernel_rfl) (by kernel_rfl) (by kernel_rfl) (by kernel_rfl) (by kernel_rfl) ((ih ((Al tt).2) ((Al tt).1) (by omega)).yes hz6) hS (by kernel_rfl) pS ?_);refine Bd ⟨rfl,?_⟩;refine Ao [0,2,6,7,73,76] ?_;refine Cl 1 4 (by kernel_rfl) ?_ ?_
     ·refine A8 (fuel:=4) 1 [] Ap (Ao [0,2,6,7,74,76] ?_);exact A6 m1_2
     ·refine A8 (fuel:=4) 4 [] Ap (Ao [0,2,6,7,73,77] ?_);refine C8 (fuel:=3) 1 [] Ap (Ao [0,2,6,7,74,77] ?_);exact A6 m1_1
  ·have hq2:=hq.trans (by rw[X5y (by omega) c3]);refine Br ?_;refine Ab (Ac (CS:=[(4,((decide (w1=[105,102]))=true→(decide (w1=[105,102]))=true)),(5,((decide (w1=[105,102]))=true→(decide (w1=[105,102]))=true)),(6,((decide (w1=[105,102]))=true→(decide (w1=[105,102]))=true)),(7,((decide (w1=[105,102]))=true→(decide (w1=[105,102]))=true)),(8,((decide (w1=[105,102]))=true→(decide (w1=[105,102]))=true))]) [83,84,85,86,87] [0,2,6,88] [] hk0 v0 (by refine cc _ ?_<|cc _ ?_<|cc _ ?_<|cc _ ?_<|cc _ ?_ c0<;>(simp;done)) ?_);refine A7 (q:=(decide (w1=[105,102]))&&(decide (ww=[101,108,115,101]))) (fun c4=>?_) fun c4=>?_
   ·try simp only[Aq] at c4
    refine Ab ?_;refine Aj (A9 1 0 [] [0,2,6,89] [] hk0 v0 c0 ?_);refine Ew [0] (al:=[(.ptr 0 0)]) (al':=[(.ptr 0 0)]) (r:=(.tup [])) (r':=(.tup [])) (H:=[(0,(.row [(.str tt),(.str ww)] 250))]) (H':=[(0,(.row [(.str ((Al tt).2)),(.str ((Al tt).1))] 250))]) (by kernel_rfl) (by exact Ov) (by kernel_rfl) (by kernel_rfl) (by kernel_rfl) (by kernel_rfl) (by kernel_rfl) (P3 tt ww (by omega)) hS (by kernel_rfl) pS (Bd ?_);refine Sy (Cz n ((Al tt).2) ((Al tt).1)) (fun hz7=>?_) (fun⟨d1,t2,w2⟩ hz7=>?_)
    ·refine Q8u (by kernel_rfl) ?_;refine Un 0 (Un 2 ?_);refine Q8q 1 3 (by kernel_rfl) rfl rfl ?_ ?_
     ·refine Ex [] [93] (Q8r 3 (by kernel_rfl) rfl ?_);exact H0 [0] (by exact Hu) ((ih ((Al tt).2) ((Al tt).1) (by omega)).no hz7) (fun _ _=>show C0=C0∧Cz (n+1) t w=none from ⟨rfl,by rw[hq2,Q6f c4 hz7];rfl⟩)
     ·exact H0 [0] (by exact Hu) ((ih ((Al tt).2) ((Al tt).1) (by omega)).no hz7) (fun _ _=>show C0=C0∧Cz (n+1) t w=none from ⟨rfl,by rw[hq2,Q6f c4 hz7];rfl⟩)
    ·have hle2:=V7 hz7;have hq3:=hq2.trans (by rw[Y1r c4 hz7]);refine E5 (by kernel_rfl) (fun F2 hF2=>?_);refine Ci false 3 (lsD 8 [0,1,2,3,4]) ⟨[(0,(.ptr 0 0)),(2,(.ptr 1 0)),(6,(.ptr 4 0)),(92,(.own 3)),(95,(.sl 5 0 1 1 false))],[(0,(.row [(.str t2),(.str w2)] 250)),(1,(.row [(.int .i64 0),(.str []),(.int .i64 0),(.str []),.nils] 86)),(3,(.grow (l.map Aw) 86 5)),(4,(.row [(.int .i64 (Bs Bv w1 0)),(.str []),(.int .i64 0),(.str []),(.own 3)] 86)),(5,(.row [(.int .i64 d1.kind),(.str d1.name),(.int .i64 d1.op),(.str d1.evr),(.row 5 d1.args.length (depAt d1.args))] 86))],6⟩ ?_ (fun m2_1=>?_)
     ·refine C8 (fuel:=2) 5 [] (hold (p:=(((l.map Aw).length+1)*72≤140737488355328)) (by omega)) (Cb (fuel:=1) [] [6] [0,2,6,96,97] Ap ?_);refine C8 (fuel:=0) 7 [] Ap (Ao [0,2,6] ?_);refine Ek (by kernel_rfl) (Ab ?_);refine Aj (A9 1 0 [] [2,6,98] [] hk0 v0 c0 ?_);refine Ew [0] (al:=[(.ptr 0 0)]) (al':=[(.ptr 0 0)]) (r:=(.str w2)) (r':=(.str w2)) (H:=[(0,(.row [(.str t2),(.str w2)] 250))]) (H':=[(0,(.row [(.str ((Al t2).2)),(.str ((Al t2).1))] 250))]) (by kernel_rfl) (by exact Qx) (by kernel_rfl) (by kernel_rfl) (by kernel_rfl) (by kernel_rfl) (by kernel_rfl) (R0 t2 w2 (by omega)) hS (by kernel_rfl) pS (A9 1 2 [] [2,6,100] [] hk0 v0 c0 ?_);refine I6 (decide (w2=[41])) (fun hz8=>?_) (fun hz8=>H0 [] (by exact Gt) (Mn (decide (w2=[41])) hz8) (fun _ _=>show C0=C0∧Cz (n+1) t w=none from ⟨rfl,by rw[hq3,Lo,if_neg (by simpa using hz8)]⟩));have hcl:=hz8;refine Lz (al:=[(.bool (decide (w2=[41])))]) (r:=(.tup [])) (by kernel_rfl) (by exact Gt) (by kernel_rfl) (by kernel_rfl) (Mm (decide (w2=[41])) hz8) pS (Bd ?_);refine Ab (Aj ?_);refine A9 0 0 [] [2,6] [] hk0 v0 c0 (Jb 4 4 yS ?_)
      refine An 0 [] [2] [] hk0 (vk 1 102 (a:=(.agg [(.int .i64 (Bs Bv w1 0)),(.str []),(.int .i64 0),(.str []),(.row 5 ((l.map Aw)++([(.agg [(.int .i64 d1.kind),(.str d1.name),(.int .i64 d1.op),(.str d1.evr),(.row 5 d1.args.length (depAt d1.args))])]:List AV)).length (fun ix=>((l.map Aw)++([(.agg [(.int .i64 d1.kind),(.str d1.name),(.int .i64 d1.op),(.str d1.evr),(.row 5 d1.args.length (depAt d1.args))])]:List AV)).getD ix Bl))])) (b:=(.agg [(.int .i64 ((DepT.mk (Bs Bv w1 0) [] 0 [] (l++[d1])).kind)),(.str ((DepT.mk (Bs Bv w1 0) [] 0 [] (l++[d1])).name)),(.int .i64 ((DepT.mk (Bs Bv w1 0) [] 0 [] (l++[d1])).op)),(.str ((DepT.mk (Bs Bv w1 0) [] 0 [] (l++[d1])).evr)),(.row 5 (DepT.mk (Bs Bv w1 0) [] 0 [] (l++[d1])).args.length (depAt (DepT.mk (Bs Bv w1 0) [] 0 [] (l++[d1])).args))])) (Imp.agg (p:=[.int .i64 (Bs Bv w1 0),.str [],.int .i64 0,.str []]) (Y3e l d1))<|v0) c0 ?_;refine Ad ?_
      refine Sh (ch:=C0) (DepT.mk (Bs Bv w1 0) [] 0 [] (l++[d1]),(Al t2).2,(Al t2).1) ?_ wR (al:=[(.agg [(.int .i64 ((DepT.mk (Bs Bv w1 0) [] 0 [] (l++[d1])).kind)),(.str ((DepT.mk (Bs Bv w1 0) [] 0 [] (l++[d1])).name)),(.int .i64 ((DepT.mk (Bs Bv w1 0) [] 0 [] (l++[d1])).op)),(.str ((DepT.mk (Bs Bv w1 0) [] 0 [] (l++[d1])).evr)),(.row 5 (DepT.mk (Bs Bv w1 0) [] 0 [] (l++[d1])).args.length (depAt (DepT.mk (Bs Bv w1 0) [] 0 [] (l++[d1])).args))])]) (by kernel_rfl) ?_ ((by kernel_rfl:Di 1 _=some [(0,(.row [(.str ((Al t2).2)),(.str ((Al t2).1))] 250))]).trans ?_)
      ·rw[hq3,Lo,if_pos (by simpa using hcl)]
      ·rfl
      ·rfl
     refine Ci false 4 (lsD 8 [0,1,2,3]) ⟨[(0,(.ptr 0 0)),(2,(.ptr 1 0)),(6,(.ptr 4 0)),(92,(.own 3)),(94,(.agg [(.int .i64 d1.kind),(.str d1.name),(.int .i64 d1.op),(.str d1.evr),(.row 5 d1.args.length (depAt d1.args))]))],[(0,(.row [(.str t2),(.str w2)] 250)),(1,(.row [(.int .i64 0),(.str []),(.int .i64 0),(.str []),.nils] 86)),(3,(.grow (l.map Aw) 86 5)),(4,(.row [(.int .i64 (Bs Bv w1 0)),(.str []),(.int .i64 0),(.str []),(.own 3)] 86))],5⟩ ?_ (fun m2_2=>?_)
     ·refine C8 (fuel:=3) 4 [] Ap (Ao [0,2,6,92,95] ?_);exact A6 m2_1
     refine Cb (fuel:=6) [] [0,2] [0,2,6,91,93] Ap ?_;refine Cl 1 3 (by kernel_rfl) ?_ ?_
     ·refine A8 (fuel:=5) 1 [] Ap ?_;refine Ao [0,2,6,92,93] (C6 (fuel:=4) 3 (by kernel_rfl) ?_);refine Ce (fuel:=4) 3 rfl (Ew [0] (al:=[(.ptr 0 0)]) (al':=[(.ptr 0 0)]) (r:=(.agg [(.int .i64 d1.kind),(.str d1.name),(.int .i64 d1.op),(.str d1.evr),(.row 5 d1.args.length (depAt d1.args))])) (r':=(.agg [(.int .i64 d1.kind),(.str d1.name),(.int .i64 d1.op),(.str d1.evr),(.row 5 d1.args.length (depAt d1.args))])) (H:=[(0,(.row [(.str ((Al tt).2)),(.str ((Al tt).1))] 250))]) (H':=[(0,(.row [(.str t2),(.str w2)] 250))]) (by kernel_rfl) (by exact Hu) (by kernel_rfl) (by kernel_rfl) (by kernel_rfl) (by kernel_rfl) (by kernel_rfl) ((ih ((Al tt).2) ((Al tt).1) (by omega)).yes hz7) hS (by kernel_rfl) pS ?_);refine Bd ⟨rfl,?_⟩;refine Ao [0,2,6,92,94] ?_;exact A6 m2_2
     ·refine Ce (fuel:=5) 3 rfl (Ew [0] (al:=[(.ptr 0 0)]) (al':=[(.ptr 0 0)]) (r:=(.agg [(.int .i64 d1.kind),(.str d1.name),(.int .i64 d1.op),(.str d1.evr),(.row 5 d1.args.length (depAt d1.args))])) (r':=(.agg [(.int .i64 d1.kind),(.str d1.name),(.int .i64 d1.op),(.str d1.evr),(.row 5 d1.args.length (depAt d1.args))])) (H:=[(0,(.row [(.str ((Al tt).2)),(.str ((Al tt).1))] 250))]) (H':=[(0,(.row [(.str t2),(.str w2)] 250))]) (by kernel_rfl) (by exact Hu) (by kernel_rfl) (by kernel_rfl) (by kernel_rfl) (by kernel_rfl) (by kernel_rfl) ((ih ((Al tt).2) ((Al tt).1) (by omega)).yes hz7) hS (by kernel_rfl) pS ?_);refine Bd ⟨rfl,?_⟩;refine Ao [0,2,6,91,94] ?_;refine Cl 1 4 (by kernel_rfl) ?_ ?_
      ·refine A8 (fuel:=4) 1 [] Ap (Ao [0,2,6,92,94] ?_);exact A6 m2_2
      ·refine A8 (fuel:=4) 4 [] Ap (Ao [0,2,6,91,95] ?_);refine C8 (fuel:=3) 1 [] Ap (Ao [0,2,6,92,95] ?_);exact A6 m2_1
   ·try simp only[Aq] at c4
    have hq3:=hq2.trans (by rw[Y1s c4]);refine Ae (Ab ?_);refine Aj (A9 1 0 [] [2,6,98] [] hk0 v0 c0 ?_);refine Ew [0] (al:=[(.ptr 0 0)]) (al':=[(.ptr 0 0)]) (r:=(.str ww)) (r':=(.str ww)) (H:=[(0,(.row [(.str tt),(.str ww)] 250))]) (H':=[(0,(.row [(.str ((Al tt).2)),(.str ((Al tt).1))] 250))]) (by kernel_rfl) (by exact Qx) (by kernel_rfl) (by kernel_rfl) (by kernel_rfl) (by kernel_rfl) (by kernel_rfl) (R0 tt ww (by omega)) hS (by kernel_rfl) pS (A9 1 2 [] [2,6,100] [] hk0 v0 c0 ?_);refine I6 (decide (ww=[41])) (fun hz9=>?_) (fun hz9=>H0 [] (by exact Gt) (Mn (decide (ww=[41])) hz9) (fun _ _=>show C0=C0∧Cz (n+1) t w=none from ⟨rfl,by rw[hq3,Lo,if_neg (by simpa using hz9)]⟩));have hcl:=hz9;refine Lz (al:=[(.bool (decide (ww=[41])))]) (r:=(.tup [])) (by kernel_rfl) (by exact Gt) (by kernel_rfl) (by kernel_rfl) (Mm (decide (ww=[41])) hz9) pS (Bd ?_);refine Ab (Aj ?_);refine A9 0 0 [] [2,6] [] hk0 v0 c0 (Jb 4 4 yS ?_)
    refine An 0 [] [2] [] hk0 (vk 1 102 (a:=(.agg [(.int .i64 (Bs Bv w1 0)),(.str []),(.int .i64 0),(.str []),(.row 5 (l.map Aw).length (fun ix=>(l.map Aw).getD ix Bl))])) (b:=(.agg [(.int .i64 ((DepT.mk (Bs Bv w1 0) [] 0 [] l).kind)),(.str ((DepT.mk (Bs Bv w1 0) [] 0 [] l).name)),(.int .i64 ((DepT.mk (Bs Bv w1 0) [] 0 [] l).op)),(.str ((DepT.mk (Bs Bv w1 0) [] 0 [] l).evr)),(.row 5 (DepT.mk (Bs Bv w1 0) [] 0 [] l).args.length (depAt (DepT.mk (Bs Bv w1 0) [] 0 [] l).args))])) (Imp.agg (p:=[.int .i64 (Bs Bv w1 0),.str [],.int .i64 0,.str []]) ((Imp.list (f:=Aw) (List.length_map Aw)).trans (Ko l)))<|v0) c0 ?_;refine Ad ?_;refine Sh (ch:=C0) (DepT.mk (Bs Bv w1 0) [] 0 [] l,(Al tt).2,(Al tt).1) ?_ wR (al:=[(.agg [(.int .i64 ((DepT.mk (Bs Bv w1 0) [] 0 [] l).kind)),(.str ((DepT.mk (Bs Bv w1 0) [] 0 [] l).name)),(.int .i64 ((DepT.mk (Bs Bv w1 0) [] 0 [] l).op)),(.str ((DepT.mk (Bs Bv w1 0) [] 0 [] l).evr)),(.row 5 (DepT.mk (Bs Bv w1 0) [] 0 [] l).args.length (depAt (DepT.mk (Bs Bv w1 0) [] 0 [] l).args))])]) (by kernel_rfl) ?_ ((by kernel_rfl:Di 1 _=some [(0,(.row [(.str ((Al tt).2)),(.str ((Al tt).1))] 250))]).trans ?_)
    ·rw[hq3,Lo,if_pos (by simpa using hcl)]
    ·rfl
    ·rfl
theorem V8:∀(n:Nat) (t w:List UInt8),t.length+w.length < n→n≤8388608→CallZ prog C0 201 [.ptr 0 0] [(0,.row [.str t,.str w] 250)] 1 (Cz n t w) (fun a=>Aw a.1) (fun a=>[(0,.row [.str a.2.1,.str a.2.2] 250)])
 |0,t,w,h,_=>by omega
 |n+1,t,w,h,k=>X38 n t w h (by omega) fun t w h=>V8 n t w h (by omega)
end
end Sv
end Go.Proofs.YtglcebdfdehidaaGreatDoor
