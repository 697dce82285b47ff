/- The texts S5, S6, S7, S8, S9, S10, S11, S12, S13, S14, S15, S16, S17, S18, S19, S20, S21, S22, S23, S24, S25, S26, S27, S28, S29, S30, S31 of the proof, joined. Each says at its theorems what it proves. -/
import Derived.Test.YtglcebdfdehidaaGreatDoorVW0
import Derived.Laws.AppendOwn
import Derived.Maps.AppendAt
import Derived.Laws.Tables
import Derived.Deep.AppendSrc
import Derived.OrdersHeld
import Derived.Laws.StructEq
import Derived.LoopN
set_option linter.unusedSimpArgs false
set_option linter.unusedVariables false
open Go.Proofs.Tryz
set_option maxHeartbeats 2000000
set_option maxRecDepth 100000
namespace Go.Proofs.YtglcebdfdehidaaGreatDoor
open Go Go.RowKit
namespace Sv
section
variable (P : Program) (ev : Operand → Option AV)
noncomputable def evs:List Operand→Option (List AV)
 |[]=>some []
 |x::l=>match ev x with
  |some a=>match evs l with
   |some r=>some (a::r)
   |none=>none
  |none=>none
noncomputable def evp:List (Nat × Operand)→Option (List (Nat × AV))
 |[]=>some []
 |(i,x)::l=>match ev x with
  |some a=>match evp l with
   |some r=>some ((i,a)::r)
   |none=>none
  |none=>none
noncomputable def Sp:List Field→Option (List (Nat × Nat))
 |[]=>some []
 |f::l=>match tsz P f.type with
  |some n=>match Sp l with
   |some r=>some ((f.offset,n)::r)
   |none=>none
  |none=>none
noncomputable def X4 (t:Nat) (ps:List (Nat × AV)):Option AV:=match Jc P t with
 |some (.agg z)=>match P.underlying t with
  |some (.struct fields)=>match Sp P fields.toList with
   |some pl=>match Oq (fun i=>pl[i]?) z ps with
    |some r=>some (.agg r)
    |none=>none
   |none=>none
  |some (.array _ e)=>match tsz P e with
   |some n=>match Oq (fun i=>some (i*n,n)) z ps with
    |some r=>some (.agg r)
    |none=>none
   |none=>none
  |_=>none
 |_=>none
noncomputable def Q2p (op:BinOp) (t:Nat):Option AV:=match P.underlying t with
 |some (.interface _)=>match op with
  |.eql=>some (.bool true)
  |.neq=>some (.bool false)
  |_=>none
 |_=>none
noncomputable def ob (x:Option Operand):Option (Option AV):=match x with
 |none=>none
 |some x=>some (ev x)
noncomputable def Q1l (c a b:Operand):Option AV:=match ev c with
  |some (.bool t)=>bif t then ev a else ev b
  |_=>none
noncomputable def Q1x (o:Oper) (op:BinOp) (t:Nat) (x y:Operand):Option AV:=match ev x with
  |some a=>match ev y with
   |some b=>match toV a with
    |some _=>Jh P ev o
    |none=>match a with
     |.agg _=>Vs P ev o
     |.nili=>match b with
      |.nili=>bif Region.isConst x||Region.isConst y then Q2p P op t else none
      |_=>binA P op t a b
     |_=>binA P op t a b
   |none=>none
  |none=>none
noncomputable def Q1u (o:Oper) (s d:Nat) (x:Operand):Option AV:=match ev x with
  |some (.str l)=>match P.underlying s with
   |some .string=>match P.underlying d with
    |some .string=>some (.str l)
    |_=>none
   |_=>none
  |some _=>Jh P ev o
  |none=>none
noncomputable def Q1p (t:Nat) (x:Operand):Option AV:=match P.underlying t with
  |some (.interface _)=>none
  |some _=>match ev x with
   |some a=>some (.ifc t a)
   |none=>none
  |none=>none
noncomputable def Q1q (fn:Fn) (first cap:Array Operand):Option AV:=match fn with
  |.func f=>match evs ev first.toList with
   |some l=>match evs ev cap.toList with
    |some m=>some (.fn f l m)
    |none=>none
   |none=>none
  |_=>none
noncomputable def Q1t (x:Operand) (i:Nat):Option AV:=match ev x with
  |some (.tup l)=>l[i]?
  |_=>none
noncomputable def Q1m (x:Operand):Option AV:=match ev x with
  |some (.ptr b off)=>some (.ptr b off)
  |_=>none
noncomputable def Q1r (s:Nat) (x:Operand) (f:Nat):Option AV:=match ev x with
  |some (.ptr b off)=>match P.underlying s with
   |some (.struct fields)=>match fields.toList[f]? with
    |some fd=>match tsz P fd.type with
     |some (_+1)=>some (.ptr b (off+fd.offset))
     |_=>none
    |none=>none
   |_=>none
  |_=>none
noncomputable def Q1s (s:Nat) (x:Operand) (f:Nat):Option AV:=match ev x with
  |some (.agg l)=>match P.underlying s with
   |some (.struct fields)=>match fields.toList[f]? with
    |some fd=>Sq P fd.type l fd.offset
    |none=>none
   |_=>none
  |_=>none
noncomputable def Q1n (t:Nat) (x i:Operand):Option AV:=match ev x with
  |some a=>match ev i with
   |some ia=>match Ld ia with
    |some n=>match P.underlying t with
     |some (.slice e)=>match tsz P e with
      |some size=>match a with
       |.sl b off len _ _=>bif Nat.blt n len then some (.ptr b (off+n*size)) else none
       |_=>none
      |none=>none
     |some (.array len e)=>match tsz P e with
      |some size=>match a with
       |.ptr b off=>bif Nat.blt n len then some (.ptr b (off+n*size)) else none
       |_=>none
      |none=>none
     |_=>none
    |none=>none
   |none=>none
  |none=>none
noncomputable def Q1o (t:Nat) (x i:Operand):Option AV:=match ev x with
  |some a=>match ev i with
   |some ia=>match Ld ia with
    |some n=>match P.underlying t with
     |some .string=>match a with
      |.str l=>match l[n]? with
       |some u=>some (.int .u8 (.ofNat u.toNat))
       |none=>none
      |_=>none
     |some (.array len e)=>match a with
      |.agg l=>match tsz P e with
       |some size=>bif Nat.blt n len then Sq P e l (n*size) else none
       |none=>none
      |_=>none
     |_=>none
    |none=>none
   |none=>none
  |none=>none
noncomputable def Q1k (t:Nat) (x:Operand) (lo hi mx:Option Operand):Option AV:=match ev x with
  |some a=>Vj P t a (ob ev lo) (ob ev hi) (ob ev mx)
  |none=>none
noncomputable def Q1w (t:Nat) (parts:Array (Nat × Operand)):Option AV:=match evp ev parts.toList with
  |some ps=>X4 P t ps
  |none=>none
noncomputable def Q1y (x:Operand) (t:Nat) (ok:Bool):Option AV:=match ev x with
  |some (.ifc u a)=>match P.underlying t with
   |some (.interface _)=>none
   |some _=>bif Nat.beq u t then some (bif ok then .tup [a,.bool true] else a) else bif ok then (match Jc P t with|some z=>some (.tup [z,.bool false])|none=>none) else none
   |none=>none
  |some .nili=>match P.underlying t with
   |some (.interface _)=>none
   |some _=>bif ok then (match Jc P t with|some z=>some (.tup [z,.bool false])|none=>none) else none
   |none=>none
  |_=>none
noncomputable def Q1v (o:Oper) (c:Call):Option AV:=match c.callee with
  |.builtin .len=>match c.args.toList with
   |[x]=>match c.argTypes.toList with
    |[t]=>match ev x with
     |some (.str l)=>match P.underlying t with
      |some .string=>some (.int .i64 (.ofNat l.length))
      |_=>none
     |some (.sl _ _ len _ _)=>match P.underlying t with
      |some (.slice _)=>some (.int .i64 (.ofNat len))
      |_=>none
     |some .nils=>match P.underlying t with
      |some (.slice _)=>some (.int .i64 (.ofNat 0))
      |_=>none
     |some .sle=>match P.underlying t with
      |some (.slice _)=>some (.int .i64 (.ofNat 0))
      |_=>none
     |some .nilm=>match P.underlying t with
      |some (.map _ _)=>some (.int .i64 (.ofNat 0))
      |_=>none
     |_=>none
    |_=>none
   |_=>none
  |.builtin .cap=>match c.args.toList with
   |[x]=>match c.argTypes.toList with
    |[t]=>match ev x with
     |some (.sl _ _ _ cap false)=>match P.underlying t with
      |some (.slice _)=>some (.int .i64 (.ofNat cap))
      |_=>none
     |some .nils=>match P.underlying t with
      |some (.slice _)=>some (.int .i64 (.ofNat 0))
      |_=>none
     |_=>none
    |_=>none
   |_=>none
  |.builtin .min=>Jh P ev o
  |.builtin .max=>Jh P ev o
  |.builtin .real=>Jh P ev o
  |.builtin .imag=>Jh P ev o
  |.builtin .complex=>Jh P ev o
  |.value _=>Xb P ev o
  |_=>none
noncomputable def G4 (o:Oper):Option AV:=match o.op with
 |.move x=>ev x
 |.assign x=>ev x
 |.pick c a b=>Q1l ev c a b
 |.binOp op t x y _=>Q1x P ev o op t x y
 |.unOp _ _ _=>Jh P ev o
 |.convert s d x=>Q1u P ev o s d x
 |.makeInterface t x=>Q1p P ev t x
 |.makeFunc fn first cap=>Q1q ev fn first cap
 |.extract x i=>Q1t ev x i
 |.nilCheck x=>Q1m ev x
 |.fieldAddr s x f=>Q1r P ev s x f
 |.field s x f=>Q1s P ev s x f
 |.indexAddr t x i=>Q1n P ev t x i
 |.index t x i=>Q1o P ev t x i
 |.slice t x lo hi mx=>Q1k P ev t x lo hi mx
 |.build t parts=>Q1w P ev t parts
 |.typeAssert x _ t ok=>Q1y P ev x t ok
 |.call c=>Q1v P ev o c
 |_=>none
end
section
variable {P : Program} {ev : Operand → Option AV} {φ : Phi} {ρ : Operand → Value}
theorem Xc (hev:EVR φ ev ρ):∀{l:List Operand} {r:List AV},evs ev l=some r→VRl φ r (l.map ρ)
 |[],_,h=>by cases h;exact .nil
 |x::l,_,h=>by
  unfold evs at h;split at h
  ·rename_i a ha;split at h
   ·rename_i r hr;cases h;exact .cons (hev _ _ ha) (Xc hev hr)
   ·cases h
  ·cases h
theorem Xd (hev:EVR φ ev ρ):∀{l:List (Nat × Operand)} {r:List (Nat × AV)},evp ev l=some r→NR φ r (l.map fun (i,x)=>(i,ρ x))
 |[],_,h=>by cases h;simp[NR]
 |(i,x)::l,_,h=>by
  unfold evp at h;split at h
  ·rename_i a ha;split at h
   ·rename_i r hr;cases h;simp only[NR,List.map_cons];exact⟨_,_,rfl,hev _ _ ha,Xd hev hr⟩
   ·cases h
  ·cases h
theorem Q06 (w:World):∀{l:List Field} {r:List (Nat × Nat)},Sp P l=some r→(l.mapM (m:=Sem) fun f=>do pure (f.offset,←sizeOf f.type)).run P w = .ok r w
 |[],_,h=>by cases h;simp[go_sem]
 |f::l,_,h=>by
  unfold Sp at h;split at h
  ·rename_i n hn;split at h
   ·rename_i r hr;cases h;have:=Q06 w hr;simp only[List.mapM_cons,Sem.run_bind,Sem.run_pure,C4 hn,Result.andThen_ok,this]
   ·cases h
  ·cases h
theorem Y2x {t:Nat} {ps:List (Nat × AV)} {qs:Array (Nat × Value)} {a:AV} (h:X4 P t ps=some a) (hp:NR φ ps qs.toList):∃v,(∀w,(Instr.build t qs).run P w = .ok v w)∧VR φ a v:=by
 unfold X4 at h;split at h
 ·rename_i z hz;obtain⟨zv,hzv,hzr⟩:=K5 (φ:=φ) hz;simp only[VR] at hzr;obtain⟨zs,hzs,rfl⟩:=hzr;split at h
  ·rename_i fields hu;split at h
   ·rename_i pl hpl;split at h
    ·rename_i r hr;cases h;obtain⟨rs,h1,h2⟩:=Tw _ ps qs.toList z zs.toArray r hr hp (by simpa using hzs);refine⟨.agg rs,fun w=>?_,by simp only[VR];exact⟨rs.toList,h2,by simp⟩⟩
     have hm:(fields.mapM (m:=Sem) fun f=>do pure (f.offset,←sizeOf f.type)).run P w = .ok pl.toArray w:=by
      rw[Array.mapM_eq_mapM_toList];simp only[Sem.run_map,Q06 w hpl,Result.andThen_ok]
     have hf:(fun i:Nat=>pl.toArray[i]?)=fun i=>pl[i]? :=by funext i;simp
     simp only[Instr.build,Sem.run_bind,hzv,Result.andThen_ok,run_underlying hu,hm,Value.cells,hf,h1,Sem.run_pure]
    ·cases h
   ·cases h
  ·rename_i n e hu;split at h
   ·rename_i size hs;split at h
    ·rename_i r hr;cases h;obtain⟨rs,h1,h2⟩:=Tw _ ps qs.toList z zs.toArray r hr hp (by simpa using hzs);refine⟨.agg rs,fun w=>?_,by simp only[VR];exact⟨rs.toList,h2,by simp⟩⟩;simp only[Instr.build,Sem.run_bind,hzv,Result.andThen_ok,run_underlying hu,C4 hs,Value.cells,h1,Sem.run_pure]
    ·cases h
   ·cases h
  ·cases h
 ·cases h
theorem Wb (hev:EVR φ ev ρ) (x:Option Operand):BR φ (ob ev x) (x.map ρ):=by
 cases x with
 |none=>simp[ob,BR]
 |some x =>
  unfold ob
  cases h:ev x with
  |none=>simp[h,BR]
  |some a=>simp only[h,BR,Option.map_some];exact⟨_,rfl,hev _ _ h⟩
theorem G2 {s:Sem Value} {w:World} {v:Value} (h:s.run P w = .ok v w):((do pure (.value (←s)):Sem Next)).run P w = .ok (.value v) w:=by
 simp only[Sem.run_bind,h,Result.andThen_ok,Sem.run_pure]
theorem Qs {op:BinOp} {t:Nat} {x y:Operand} {a b:Value} (w:World) (h:¬(a = .nilIface∧b = .nilIface)) (h':∀c d,¬(a = .agg c∧b = .agg d)):(eqGuard op t x y a b).run P w = .ok () w:=by
 unfold eqGuard;by_cases ho:(!(match op with | .eql | .neq=>true|_=>false))=true
 ·cases op<;>first|(simp at ho;done)|rfl
 ·cases op<;>first|(simp at ho;done)|skip
  all_goals
   cases a<;>cases b<;>first|rfl|(exact absurd ⟨rfl,rfl⟩ h)|(exact absurd ⟨rfl,rfl⟩ (h' _ _))
theorem Q7j {op:BinOp} {t:Nat} {a b r:AV} {x y:Value} (h:binA P op t a b=some r) (ht:toV a=none) (hx:VR φ a x) (hy:VR φ b y) (xo yo:Operand) :
  ∃v,(∀w,((do eqGuard op t xo yo x y;binOp op t x y):Sem Value).run P w = .ok v w)∧VR φ r v:=by
 unfold binA at h;split at h
 case h_8 =>
  have nilcase:∀q,binA.nilEq P t a b=some q→¬(x = .nilIface∧y = .nilIface)∧(∀c d,¬(x = .agg c∧y = .agg d))∧(∀r:Bool,(∀w,(Op.equal t x y).run P w = .ok r w) →
    (∀w,(binOp .eql t x y).run P w = .ok (.bool r) w)∧(∀w,(binOp .neq t x y).run P w = .ok (.bool (!r)) w)):=by
   intro q hq;unfold binA.nilEq at hq
   split at hq<;>first|cases hq|skip
   all_goals
    simp only[VR] at hx hy
    first
     |(obtain⟨x1,κ1,e1,rfl⟩:=hx;subst hy;refine⟨by simp,by simp,fun r hr=>⟨fun w=>?_,fun w=>?_⟩⟩<;>simp[binOp,hr,go_sem];done)
     |(obtain⟨x1,κ1,e1,rfl⟩:=hy;subst hx;refine⟨by simp,by simp,fun r hr=>⟨fun w=>?_,fun w=>?_⟩⟩<;>simp[binOp,hr,go_sem];done)
     |(obtain⟨x1,κ1,e1,⟨_,_,rfl⟩|⟨_,rfl⟩⟩:=hx<;>subst hy<;>refine⟨by simp,by simp,fun r hr=>⟨fun w=>?_,fun w=>?_⟩⟩<;>simp[binOp,hr,go_sem];done)
     |(obtain⟨x1,κ1,e1,⟨_,_,rfl⟩|⟨_,rfl⟩⟩:=hy<;>subst hx<;>refine⟨by simp,by simp,fun r hr=>⟨fun w=>?_,fun w=>?_⟩⟩<;>simp[binOp,hr,go_sem];done)
     |(obtain⟨x1,e1,rfl⟩:=hx;subst hy;refine⟨by simp,by simp,fun r hr=>⟨fun w=>?_,fun w=>?_⟩⟩<;>simp[binOp,hr,go_sem];done)
     |(obtain⟨x1,e1,rfl⟩:=hy;subst hx;refine⟨by simp,by simp,fun r hr=>⟨fun w=>?_,fun w=>?_⟩⟩<;>simp[binOp,hr,go_sem];done)
     |(obtain⟨x1,x2,rfl⟩:=hx;subst hy;refine⟨by simp,by simp,fun r hr=>⟨fun w=>?_,fun w=>?_⟩⟩<;>simp[binOp,hr,go_sem];done)
     |(obtain⟨x1,x2,rfl⟩:=hy;subst hx;refine⟨by simp,by simp,fun r hr=>⟨fun w=>?_,fun w=>?_⟩⟩<;>simp[binOp,hr,go_sem];done)
     |(obtain⟨x1,x2,e1,e2,rfl⟩:=hx;subst hy;refine⟨by simp,by simp,fun r hr=>⟨fun w=>?_,fun w=>?_⟩⟩<;>simp[binOp,hr,go_sem];done)
     |(subst hx;subst hy;refine⟨by simp,by simp,fun r hr=>⟨fun w=>?_,fun w=>?_⟩⟩<;>simp[binOp,hr,go_sem];done)
  split at h
  ·obtain⟨g1,g2,g3⟩:=nilcase _ h;obtain⟨q,rfl,hq⟩:=Q2q h hx hy;exact⟨.bool q,fun w=>by simp only[Sem.run_bind,Qs w g1 g2,Result.andThen_ok,(g3 q hq).1 w],by simp[VR]⟩
  ·split at h
   ·rename_i r' hr';cases h;obtain⟨g1,g2,g3⟩:=nilcase _ hr';obtain⟨q,hq0,hq⟩:=Q2q hr' hx hy;cases hq0;exact⟨.bool (!r'),fun w=>by simp only[Sem.run_bind,Qs w g1 g2,Result.andThen_ok,(g3 r' hq).2 w],by simp[VR]⟩
   ·cases h
  ·cases h
 all_goals
  simp only[VR] at hx hy;subst hx;subst hy
 case h_7 l m =>
  cases hb:Nat.ble (l.length+m.length) 1000000 with
  |false=>rw[hb] at h;cases h
  |true =>
   rw[hb,cond_true] at h;cases h;refine⟨.string ⟨(l++m).toArray⟩,fun w=>?_,VR.ofStr _⟩
   have h1:¬(((l.length+m.length:Nat):Int) > IntKind.i64.max):=by
    have:IntKind.i64.max=9223372036854775807:=by decide
    have:=Dx hb;omega
   have h2:(⟨l.toArray⟩:ByteArray)++⟨m.toArray⟩=⟨(l++m).toArray⟩:=by
    apply ByteArray.ext;simp[ByteArray.data_append]
   have hg:=Qs (P:=P) (op:=.add) (t:=t) (x:=xo) (y:=yo) (a:=.string ⟨l.toArray⟩) (b:=.string ⟨m.toArray⟩) w (by simp) (by simp);simp only[Sem.run_bind,hg,Result.andThen_ok,binOp,Op.stringOp,Gx,h2];rw[if_neg h1];rfl
 all_goals
  rename_i p q;cases h;refine⟨_,fun w=>?_,VR.ofBool _⟩;have hg:=fun o=>Qs (P:=P) (op:=o) (t:=t) (x:=xo) (y:=yo) (a:=.string ⟨p.toArray⟩) (b:=.string ⟨q.toArray⟩) w (by simp) (by simp)
  have he:(p == q)=Je p q:=by rw[Zu,Bool.eq_iff_iff];simp
  simp only[Sem.run_bind,hg,Result.andThen_ok,binOp,Op.stringOp,O9,he,Sem.run_pure]
end
section
variable {P : Program} {ev : Operand → Option AV} {φ : Phi} {ρ : Operand → Value}
theorem X23 (hev:EVR φ ev ρ) {o:Oper} {a:AV} (h:G4 P ev o=some a):Pc P φ ρ o a:=by
 obtain⟨dst,op,type,pos,after,guard⟩:=o;cases op<;>simp only[G4,Q1l,Q1x,Q1u,Q1p,Q1q,Q1t,Q1m,Q1r,Q1s,Q1n,Q1o,Q1k,Q1w,Q1y,Q1v,reduceCtorEq] at h
 case move x=>exact⟨_,fun w=>rfl,hev _ _ h⟩
 case assign x=>exact⟨_,fun w=>rfl,hev _ _ h⟩
 case pick c x y =>
  split at h
  ·rename_i t ht;have hc:=hev _ _ ht;simp only[VR] at hc;cases t
   ·exact⟨ρ y,fun w=>by simp[execOp,hc,asBool,go_sem],hev _ _ h⟩
   ·exact⟨ρ x,fun w=>by simp[execOp,hc,asBool,go_sem],hev _ _ h⟩
  ·cases h
 case binOp op t x y ty =>
  split at h
  ·rename_i a1 ha;split at h
   ·rename_i b1 hb;split at h
    ·exact Sd hev h
    ·rename_i hn;split at h
     ·exact X10 hev h
     ·split at h
      ·cases hc:(Region.isConst x||Region.isConst y) with
       |false=>rw[hc] at h;cases h
       |true =>
        rw[hc,cond_true] at h;have hx:=hev _ _ ha;have hy:=hev _ _ hb;simp only[VR] at hx hy;unfold Q2p at h;split at h
        ·rename_i ms hu
         have hg:∀w,(eqGuard op t x y .nilIface .nilIface).run P w = .ok () w:=by
          intro w;unfold eqGuard
          cases op<;>first
           |rfl
           |(simp only[Bool.not_true,Bool.false_eq_true,if_false];cases x<;>cases y<;>first|rfl|(simp[Region.isConst] at hc;done))
         split at h
         ·cases h;refine⟨.bool true,fun w=>?_,by simp[VR]⟩;simp only[execOp];refine G2 ?_;simp only[hx,hy,Sem.run_bind,hg,Result.andThen_ok,binOp,Op.equal,Op.maxDepth];unfold Op.equalIn;simp[run_underlying hu,go_sem]
         ·cases h;refine⟨.bool false,fun w=>?_,by simp[VR]⟩;simp only[execOp];refine G2 ?_;simp only[hx,hy,Sem.run_bind,hg,Result.andThen_ok,binOp,Op.equal,Op.maxDepth];unfold Op.equalIn;simp[run_underlying hu,go_sem]
         ·cases h
        ·cases h
      ·obtain⟨v,hv,hr⟩:=Q7j h hn (hev _ _ ha) (hev _ _ hb) x y;exact⟨v,fun w=>by simp only[execOp];exact G2 (hv w),hr⟩
     ·obtain⟨v,hv,hr⟩:=Q7j h hn (hev _ _ ha) (hev _ _ hb) x y;exact⟨v,fun w=>by simp only[execOp];exact G2 (hv w),hr⟩
   ·cases h
  ·cases h
 case unOp op t x=>exact Sd hev h
 case convert s d x =>
  split at h
  ·rename_i l hl;split at h
   ·rename_i hu1;split at h
    ·rename_i hu;cases h;have hx:=hev _ _ hl;simp only[VR] at hx;refine⟨.string ⟨l.toArray⟩,fun w=>?_,VR.ofStr _⟩;simp[execOp,convert,hx,run_underlying hu1,run_underlying hu,go_sem]
    ·cases h
   ·cases h
  ·exact Sd hev h
  ·cases h
 case makeInterface t x =>
  split at h
  ·cases h
  ·rename_i d hd hu;split at h
   ·rename_i a1 ha;cases h;refine⟨.iface t (ρ x),fun w=>?_,by simp only[VR];exact⟨_,hev _ _ ha,rfl⟩⟩;simp only[execOp];refine G2 ?_
    cases d<;>first
     |(simp[Instr.makeInterface,run_underlying hu,go_sem];done)
     |exact(hd _ rfl).elim
   ·cases h
  ·cases h
 case makeFunc fn first cap =>
  split at h
  ·rename_i f;split at h
   ·rename_i l hl;split at h
    ·rename_i m hm;cases h;have h1:=Xc hev hl;have h2:=Xc hev hm;refine⟨.func (.func f) (first.map ρ) (cap.map ρ),fun w=>rfl,?_⟩;simp only[VR];refine⟨_,_,h1,h2,?_⟩;congr 1<;>(apply Array.ext';simp)
    ·cases h
   ·cases h
  ·cases h
 case extract x i =>
  split at h
  ·rename_i l hl;have hx:=hev _ _ hl;simp only[VR] at hx;obtain⟨vs,hvs,hx⟩:=hx;obtain⟨v,hv,hr⟩:=hvs.get h;exact⟨v,fun w=>by simp[execOp,Instr.extract,hx,hv,go_sem],hr⟩
  ·cases h
 case nilCheck x =>
  split at h
  ·rename_i b off hl;cases h;have hx:=hev _ _ hl;have hx':=hx;simp only[VR] at hx;obtain⟨y,κ,_,hx⟩:=hx;exact⟨ρ x,fun w=>by simp[execOp,hx,go_sem],hx'⟩
  ·cases h
 case fieldAddr s x f =>
  split at h
  ·rename_i b off hl;split at h
   ·rename_i fields hu;split at h
    ·rename_i fd hf;split at h
     ·rename_i n hn;cases h;have hx:=hev _ _ hl;simp only[VR] at hx;obtain⟨y,κ,hφ,hx⟩:=hx;refine⟨.pointer (some ⟨y,off+fd.offset,none⟩),fun w=>?_,by simp only[VR];exact⟨y,κ,hφ,rfl⟩⟩
      have hf':fields[f]? = some fd:=by simpa using hf
      simp[execOp,Instr.fieldAt,Instr.sureAddr,fieldPlace,hx,run_underlying hu,hf',C4 hn,Fb,go_sem]
     ·cases h
    ·cases h
   ·cases h
  ·cases h
 case field s x f =>
  split at h
  ·rename_i l hl;split at h
   ·rename_i fields hu;split at h
    ·rename_i fd hf;have hx:=hev _ _ hl;simp only[VR] at hx;obtain⟨vs,hvs,hx⟩:=hx;obtain⟨v,hv,hr⟩:=Q1f h hvs
     have hf':fields[f]? = some fd:=by simpa using hf
     refine⟨v,fun w=>?_,hr⟩;simp only[execOp];refine G2 ?_;simp only[Instr.field,Sem.run_bind,run_underlying hu,Result.andThen_ok,hf',hx,asAgg,Sem.run_pure,hv]
    ·cases h
   ·cases h
  ·cases h
 case indexAddr t x i =>
  split at h
  ·rename_i a1 ha;split at h
   ·rename_i ia hia;split at h
    ·rename_i n hn;obtain⟨kd,hi⟩:=N7 hn (hev _ _ hia);have hx:=hev _ _ ha;split at h
     ·rename_i e hu;split at h
      ·rename_i size hs;split at h
       ·rename_i b off len cap op
        cases hb:Nat.blt n len with
        |false=>rw[hb] at h;cases h
        |true =>
         rw[hb,cond_true] at h;cases h
         have hlt:n < len:=by simpa [Nat.blt_eq] using hb
         simp only[VR] at hx;obtain⟨y,κ,hφ,hx⟩:=hx
         have hx':∃c,ρ x = .slice (some ⟨y,off,none⟩) len c:=by
          rcases hx with⟨_,_,hx⟩|⟨_,hx⟩<;>exact⟨_,hx⟩
         obtain⟨c,hx'⟩:=hx';refine⟨.pointer (some ⟨y,off+n*size,none⟩),fun w=>?_,by simp only[VR];exact⟨y,κ,hφ,rfl⟩⟩
         have h1:(0:Int)≤(n:Int)∧(n:Int) < (len:Int):=by omega
         simp[execOp,Instr.indexAt,asIntOf,hx',hi,run_underlying hu,C4 hs,h1,hlt,Fb,go_sem]
       ·cases h
      ·cases h
     ·rename_i len e hu;split at h
      ·rename_i size hs;split at h
       ·rename_i b off
        cases hb:Nat.blt n len with
        |false=>rw[hb] at h;cases h
        |true =>
         rw[hb,cond_true] at h;cases h
         have hlt:n < len:=by simpa [Nat.blt_eq] using hb
         simp only[VR] at hx;obtain⟨y,κ,hφ,hx⟩:=hx;refine⟨.pointer (some ⟨y,off+n*size,none⟩),fun w=>?_,by simp only[VR];exact⟨y,κ,hφ,rfl⟩⟩
         have h1:(0:Int)≤(n:Int)∧(n:Int) < (len:Int):=by omega
         simp[execOp,Instr.indexAt,Instr.sureAddr,asIntOf,hx,hi,run_underlying hu,C4 hs,h1,hlt,Fb,go_sem]
       ·cases h
      ·cases h
     ·cases h
    ·cases h
   ·cases h
  ·cases h
 case index t x i =>
  split at h
  ·rename_i a1 ha;split at h
   ·rename_i ia hia;split at h
    ·rename_i n hn;obtain⟨kd,hi⟩:=N7 hn (hev _ _ hia);have hx:=hev _ _ ha;split at h
     ·rename_i hu;split at h
      ·rename_i l;split at h
       ·rename_i u hlu;cases h;simp only[VR] at hx;refine⟨.int .u8 (u.toNat:Int),fun w=>?_,by simp[VR]⟩;have hlt:n < l.length:=(List.getElem?_eq_some_iff.1 hlu).1
        have hg:(⟨l.toArray⟩:ByteArray)[n]? = some u:=by
         have hs:n < (⟨l.toArray⟩:ByteArray).size:=by rw[Gx];exact hlt
         rw[getElem?_pos _ n hs];have:((⟨l.toArray⟩:ByteArray)[n]'hs)=l[n]:=rfl;rw[this];rw[List.getElem?_eq_getElem hlt] at hlu;exact hlu
        simp only[execOp];refine G2 ?_;simp[Instr.index,asIntOf,hx,hi,run_underlying hu,hg,go_sem]
       ·cases h
      ·cases h
     ·rename_i len e hu;split at h
      ·rename_i l;split at h
       ·rename_i size hs
        cases hb:Nat.blt n len with
        |false=>rw[hb] at h;cases h
        |true =>
         rw[hb,cond_true] at h
         have hlt:n < len:=by simpa [Nat.blt_eq] using hb
         simp only[VR] at hx;obtain⟨vs,hvs,hx⟩:=hx;obtain⟨v,hv,hr⟩:=Q1f h hvs;refine⟨v,fun w=>?_,hr⟩
         have h1:(0:Int)≤(n:Int)∧(n:Int) < (len:Int):=by omega
         simp only[execOp];refine G2 ?_;simp only[Instr.index,asIntOf,hx,hi,Sem.run_bind,Sem.run_pure,Result.andThen_ok,run_underlying hu];rw[if_pos h1];simp only[Sem.run_bind,C4 hs,Result.andThen_ok,Int.toNat_natCast,hv]
       ·cases h
      ·cases h
     ·cases h
    ·cases h
   ·cases h
  ·cases h
 case slice t x lo hi mx =>
  split at h
  ·rename_i a1 ha;obtain⟨v,hv,hr⟩:=X07 h (hev _ _ ha) (Wb hev lo) (Wb hev hi) (Wb hev mx);exact⟨v,fun w=>by simp only[execOp];exact G2 (hv w),hr⟩
  ·cases h
 case build t parts =>
  split at h
  ·rename_i ps hps;have hp:=Xd hev hps;obtain⟨v,hv,hr⟩:=Y2x (qs:=parts.map fun (i,x)=>(i,ρ x)) h (by simpa using hp);exact⟨v,fun w=>by simp only[execOp];exact G2 (hv w),hr⟩
  ·cases h
 case typeAssert x xt t ok =>
  split at h
  ·rename_i u a1 hl;have hx:=hev _ _ hl;simp only[VR] at hx;obtain⟨y,hy,hx⟩:=hx;split at h
   ·cases h
   ·rename_i d hd hu;have hni:∀ms,d ≠ .interface ms:=fun ms e=>hd ms e;rcases D2 u t with⟨q,rfl⟩|⟨q,q'⟩
    ·rw[q,cond_true] at h;cases h;cases ok
     ·refine⟨y,fun w=>?_,hy⟩;simp only[execOp];refine G2 ?_
      cases d<;>first
       |(simp[Instr.typeAssert,hx,run_underlying hu,go_sem];done)
       |exact(hni _ rfl).elim
     ·refine⟨.tuple #[y,.bool true],fun w=>?_,by simp only[VR,cond_true];exact⟨[y,.bool true],.cons hy (.cons (by simp[VR]) .nil),rfl⟩⟩;simp only[execOp];refine G2 ?_
      cases d<;>first
       |(simp[Instr.typeAssert,hx,run_underlying hu,go_sem];done)
       |exact(hni _ rfl).elim
    ·rw[q,cond_false] at h;cases ok
     ·cases h
     ·rw[cond_true] at h;split at h
      ·rename_i z hz;cases h;obtain⟨zv,hzv,hzr⟩:=K5 (φ:=φ) hz;refine⟨.tuple #[zv,.bool false],fun w=>?_,by simp only[VR];exact⟨[zv,.bool false],.cons hzr (.cons (by simp[VR]) .nil),rfl⟩⟩;simp only[execOp];refine G2 ?_
       cases d<;>first
        |(simp[Instr.typeAssert,hx,run_underlying hu,q',hzv,go_sem];done)
        |exact(hni _ rfl).elim
      ·cases h
   ·cases h
  ·rename_i hl;have hx:=hev _ _ hl;simp only[VR] at hx;split at h
   ·cases h
   ·rename_i d hd hu;cases ok
    ·cases h
    ·rw[cond_true] at h;split at h
     ·rename_i z hz;cases h;obtain⟨zv,hzv,hzr⟩:=K5 (φ:=φ) hz;refine⟨.tuple #[zv,.bool false],fun w=>?_,by simp only[VR];exact⟨[zv,.bool false],.cons hzr (.cons (by simp[VR]) .nil),rfl⟩⟩;simp only[execOp];refine G2 ?_
      cases d<;>first
       |(simp only[Instr.typeAssert,hx,Sem.run_bind,run_underlying hu,Result.andThen_ok,if_true,hzv,Sem.run_pure];done)
       |exact(hd _ rfl).elim
     ·cases h
   ·cases h
  ·cases h
 case call c =>
  obtain⟨callee,args,argTypes⟩:=c;simp only at h
  have lens:∀(x:Operand) (t:Nat),args.toList=[x]→argTypes.toList=[t]→args = #[x]∧argTypes = #[t]:=fun x t h1 h2=>⟨by apply Array.ext';simpa using h1,by apply Array.ext';simpa using h2⟩
  split at h
  ·split at h
   ·rename_i x hxs;split at h
    ·rename_i t hts;obtain⟨rfl,rfl⟩:=lens x t hxs hts
     split at h<;>first|cases h|skip
     ·rename_i l hl
      split at h<;>first|cases h|skip
      rename_i hu;have hx:=hev _ _ hl;simp only[VR] at hx;exact⟨.int .i64 (l.length:Int),fun w=>by simp[execOp,resolve,invoke,builtin,Builtin.len_,hx,run_underlying hu,goInt,Gx,go_sem],by simp[VR]⟩
     ·rename_i b off len cap op hl
      split at h<;>first|cases h|skip
      rename_i e hu;have hx:=hev _ _ hl;simp only[VR] at hx;obtain⟨y,κ,hφ,hx⟩:=hx
      have hx':∃c,ρ x = .slice (some ⟨y,off,none⟩) len c:=by
       rcases hx with⟨_,_,hx⟩|⟨_,hx⟩<;>exact⟨_,hx⟩
      obtain⟨c,hx'⟩:=hx';exact⟨.int .i64 (len:Int),fun w=>by simp[execOp,resolve,invoke,builtin,Builtin.len_,hx',run_underlying hu,goInt,go_sem],by simp[VR]⟩
     ·rename_i hl
      split at h<;>first|cases h|skip
      rename_i e hu;have hx:=hev _ _ hl;simp only[VR] at hx;exact⟨.int .i64 ((0:Nat):Int),fun w=>by simp[execOp,resolve,invoke,builtin,Builtin.len_,hx,run_underlying hu,goInt,go_sem],by simp[VR]⟩
     ·rename_i hl
      split at h<;>first|cases h|skip
      rename_i e hu;have hx:=hev _ _ hl;simp only[VR] at hx;obtain⟨p,c,hx⟩:=hx;exact⟨.int .i64 ((0:Nat):Int),fun w=>by simp[execOp,resolve,invoke,builtin,Builtin.len_,hx,run_underlying hu,goInt,go_sem],by simp[VR]⟩
     ·rename_i hl
      split at h<;>first|cases h|skip
      rename_i k e hu;have hx:=hev _ _ hl;simp only[VR] at hx;exact⟨.int .i64 ((0:Nat):Int),fun w=>by simp[execOp,resolve,invoke,builtin,Builtin.len_,hx,run_underlying hu,goInt,go_sem],by simp[VR]⟩
    ·cases h
   ·cases h
  ·split at h
   ·rename_i x hxs;split at h
    ·rename_i t hts;obtain⟨rfl,rfl⟩:=lens x t hxs hts
     split at h<;>first|cases h|skip
     ·rename_i b off len cap hl
      split at h<;>first|cases h|skip
      rename_i e hu;have hx:=hev _ _ hl;simp only[VR] at hx;obtain⟨y,κ,hφ,⟨q,_⟩|⟨_,hx⟩⟩:=hx
      ·cases q
      exact⟨.int .i64 (cap:Int),fun w=>by simp[execOp,resolve,invoke,builtin,Builtin.cap_,hx,run_underlying hu,goInt,go_sem],by simp[VR]⟩
     ·rename_i hl
      split at h<;>first|cases h|skip
      rename_i e hu;have hx:=hev _ _ hl;simp only[VR] at hx;exact⟨.int .i64 ((0:Nat):Int),fun w=>by simp[execOp,resolve,invoke,builtin,Builtin.cap_,hx,run_underlying hu,goInt,go_sem],by simp[VR]⟩
    ·cases h
   ·cases h
  all_goals first|exact Sd hev h|exact X8o hev h|cases h
end
inductive AO where
 |row (c:List AV) (e:Nat)
 |grow (es:List AV) (e sz:Nat)
 |map (es:List (AV × AV × Nat)) (clk:Nat)
 |siter (s:List UInt8) (p:Nat)
 |mm (g:List UInt8→List AV) (hole:Option (List UInt8)) (e sz:Nat)
 |gh (es:List AV) (e sz o k:Nat)
abbrev AH:=List (Nat × AO)
noncomputable def A3 (b:Nat):AH→Option AO
 |[]=>none
 |(k,o)::r=>bif Nat.beq k b then some o else A3 b r
noncomputable def B1 (b:Nat) (o:AO):AH→AH
 |[]=>[(b,o)]
 |(k,x)::r=>bif Nat.beq k b then (k,o)::r else (k,x)::B1 b o r
noncomputable def Cr (b:Nat):AH→AH
 |[]=>[]
 |(k,x)::r=>bif Nat.beq k b then Cr b r else (k,x)::Cr b r
theorem Iz (b:Nat) (o:AO):∀h:AH,A3 b (B1 b o h)=some o
 |[]=>by simp only[B1,A3,Nat.beq_refl,cond_true]
 |(k,x)::r=>by
  rcases D2 k b with⟨e,_⟩|⟨e,_⟩<;>simp only[B1,e,cond_true,cond_false,A3];exact Iz b o r
theorem Hp {b c:Nat} (o:AO) (hne:c≠b):∀h:AH,A3 c (B1 b o h)=A3 c h
 |[]=>by simp only[B1,A3,I8 (Ne.symm hne),cond_false]
 |(k,x)::r=>by
  rcases D2 k b with⟨e,h1⟩|⟨e,_⟩
  ·subst h1;simp only[B1,Nat.beq_refl,cond_true,A3,I8 (Ne.symm hne),cond_false]
  ·simp only[B1,e,cond_false,A3,Hp o hne r]
theorem W3 (b:Nat):∀h:AH,A3 b (Cr b h)=none
 |[]=>rfl
 |(k,x)::r=>by
  rcases D2 k b with⟨e,_⟩|⟨e,_⟩<;>simp only[Cr,e,cond_true,cond_false,A3]
  ·exact W3 b r
  ·exact W3 b r
theorem Hq {b c:Nat} (hne:c≠b):∀h:AH,A3 c (Cr b h)=A3 c h
 |[]=>rfl
 |(k,x)::r=>by
  rcases D2 k b with⟨e,h1⟩|⟨e,_⟩
  ·subst h1;simp only[Cr,Nat.beq_refl,cond_true,A3,I8 (Ne.symm hne),cond_false,Hq hne r]
  ·simp only[Cr,e,cond_false,A3,Hq hne r]
theorem D6 {b c:Nat} {o:AO} {h:AH} (k:A3 c (Cr b h)=some o):c≠b∧A3 c h=some o:=by
 by_cases e:c=b
 ·subst e;rw[W3] at k;cases k
 ·rw[Hq e] at k;exact⟨e,k⟩
def MR (φ:Phi):List (AV × AV × Nat)→List MapEntry→Prop
 |[],l=>l=[]
 |(k,v,n)::es,l=>∃e l',l=e::l'∧VR φ k e.key∧VR φ v e.val∧e.born=n∧MR φ es l'
theorem MR.imp {φ φ':Phi}:∀{es:List (AV × AV × Nat)} {l:List MapEntry},(∀a v n,(a,v,n)∈es→(∀u,VR φ a u→VR φ' a u)∧(∀u,VR φ v u→VR φ' v u))→MR φ es l→MR φ' es l
 |[],_,_,k=>k
 |(a,v,n)::es,_,h,k=>by
  simp only[MR] at k ⊢;obtain⟨e,l',r,x,y,c,d⟩:=k;have h0:=h a v n (by simp);exact⟨e,l',r,h0.1 _ x,h0.2 _ y,c,MR.imp (fun a v n hm=>h a v n (by simp[hm])) d⟩
theorem MR.mono {φ φ':Phi} (h:φ.le φ') {es:List (AV × AV × Nat)} {l:List MapEntry} (k:MR φ es l):MR φ' es l:=MR.imp (fun _ _ _ _=>⟨fun _=>VR.mono h,fun _=>VR.mono h⟩) k
structure Bas where
 w:World
 old:Nat→Prop
 lt:∀k,old k→k < w.heap.size
structure Bel (B:Bas) (w:World):Prop where
 os:w.os=B.w.os
 tape:w.tape=B.w.tape
 output:w.output=B.w.output
 size:B.w.heap.size≤w.heap.size
 block:∀k,B.old k→w.heap[k]? = B.w.heap[k]?
theorem Bel.lt {B:Bas} {w:World} (h:Bel B w) {k:Nat} (hk:B.old k):k < w.heap.size:=Nat.lt_of_lt_of_le (B.lt k hk) h.size
theorem Bel.fresh {B:Bas} {w:World} (h:Bel B w):¬B.old w.heap.size:=fun k=>Nat.lt_irrefl _ (h.lt k)
theorem Bel.to {B:Bas} {w w':World} (h:Bel B w) (hos:w'.os=w.os) (htape:w'.tape=w.tape) (hout:w'.output=w.output) (hsize:w.heap.size≤w'.heap.size) (hb:∀k,B.old k→w'.heap[k]? = w.heap[k]?):Bel B w' :=
 ⟨hos.trans h.os,htape.trans h.tape,hout.trans h.output,Nat.le_trans h.size hsize,fun k hk=>(hb k hk).trans (h.block k hk)⟩
theorem Bel.go {B:Bas} {w w':World} (h:Bel B w) (b:Below w.heap.size w w'):Bel B w':=h.to b.os b.tape b.output b.size fun k hk=>b.block k (h.lt hk)
def Gj (hole:Option (List UInt8)) (m:List (List UInt8 × Value)):Value:=.tuple ((m.filter fun p=>decide (some p.1≠hole)).map (·.2)).toArray
def At (B:Bas) (φ:Phi) (w:World) (b:Nat):AO→Prop
 |.row c e=>∃x κ vs,φ b=some (x,κ)∧w.heap[x]? = some (.cells vs e (0,0))∧VRl φ c vs.toList
 |.grow es e sz=>∃v vs,φ.s b=some v∧w.ownsRow 0 e sz v es.length (vs.flatMap fun u=>u.cells.toList)∧VRl φ.fz es vs∧∀u∈vs,u.cells.size=sz∧∀c∈u.cells.toList,c.oneCell'=true
 |.map es clk=>∃x κ l,φ b=some (x,κ)∧w.heap[x]? = some (.map l clk)∧MR φ.fz es l.toList
 |.siter s p=>∃x κ,φ b=some (x,κ)∧w.heap[x]? = some (.stringIter ⟨s.toArray⟩ p)
 |.mm g hole e sz=>∃x κ es clk m,φ b=some (x,κ)∧w.heap[x]? = some (.map es clk)∧es.toList.map (fun e=>(e.key,e.val))=Ds S id m∧Once m∧φ.s b=some (Gj hole m) ∧
   (∀s u,Bj m s=some u→some s≠hole→∃vs,w.ownsRow 0 e sz u (g s).length (vs.flatMap fun u=>u.cells.toList)∧VRl φ.fz (g s) vs∧∀u∈vs,u.cells.size=sz∧∀c∈u.cells.toList,c.oneCell'=true) ∧
   (∀s,Bj m s=none→g s=[]) ∧
   (∀s u,Bj m s=some u→some s≠hole→u.ownBlock≠some x) ∧
   ∀s s' u u' k,Bj m s=some u→Bj m s'=some u'→some s≠hole→some s'≠hole→u.ownBlock=some k→u'.ownBlock=some k→s=s'
 |.gh es e sz o k=>∃v vs hd,φ.s b=some v∧w.ownsRow 0 e sz v es.length (vs.flatMap fun u=>u.cells.toList)∧VRl φ.fz es vs∧(∀u∈vs,u.cells.size=sz∧∀c∈u.cells.toList,c.oneCell'=true)∧φ.s k=some hd∧(vs.flatMap fun u=>u.cells.toList)[o]? = some hd
def img (φ:Phi) (b:Nat):AO→Nat→Prop
 |.grow _ _ _,k=>(φ.s b).bind Value.ownBlock=some k
 |.gh _ _ _ _ _,k=>(φ.s b).bind Value.ownBlock=some k
 |.mm _ _ _ _,k=>(φ b).map (·.1)=some k∨∃l,φ.s b=some (.tuple l)∧∃u∈l.toList,u.ownBlock=some k
 |_,k=>(φ b).map (·.1)=some k
noncomputable def On:AO→Bool
 |.grow _ _ _=>false
 |.mm _ _ _ _=>false
 |.gh _ _ _ _ _=>false
 |_=>true
theorem Sf {hole:Option (List UInt8)} {m:List (List UInt8 × Value)} (ho:Once m) {s:List UInt8} {u:Value} (h:Bj m s=some u) (hs:some s≠hole):∃l,Gj hole m = .tuple l∧u∈l.toList:=by
 refine⟨_,rfl,?_⟩;obtain⟨p,h1,rfl⟩:=Option.map_eq_some_iff.1 h;have hm:=List.mem_of_find?_eq_some h1
 have hp:s=p.1:=by simpa using List.find?_some h1
 simp only[List.mem_map,List.mem_filter];exact⟨p,⟨hm,by rw[←hp];simpa using hs⟩,rfl⟩
theorem Y3t {m:List (List UInt8 × Value)} (ho:Once m) {p:List UInt8 × Value} (h:p∈m):Bj m p.1=some p.2:=by
 unfold Bj
 induction m with
 |nil=>cases h
 |cons q r ih =>
  unfold Once at ho;rw[List.map_cons,List.nodup_cons] at ho;rw[List.find?_cons];rcases List.mem_cons.1 h with rfl|h
  ·simp
  ·have hne:¬p.1=q.1:=fun e=>ho.1 (by rw[←e];exact List.mem_map.2 ⟨p,h,rfl⟩);simp only[hne,decide_false];exact ih ho.2 h
theorem Vv {hole:Option (List UInt8)} {m:List (List UInt8 × Value)} (ho:Once m) {l:Array Value} {u:Value} (h:Gj hole m = .tuple l) (hu:u∈l.toList):∃s,Bj m s=some u∧some s≠hole:=by
 unfold Gj at h;have:=(Value.tuple.inj h).symm;subst this;simp only[List.mem_map,List.mem_filter] at hu;obtain⟨p,⟨h1,h2⟩,rfl⟩:=hu;exact⟨p.1,Y3t ho h1,by simpa using h2⟩
structure Rel (B:Bas) (φ:Phi) (h:AH) (w:World):Prop where
 below:Bel B w
 fro:∀b o,φ.f b=some o→w.heap[b]? = some o
 obj:∀b o,A3 b h=some o→At B φ w b o
 sep:∀b b' o o' k,A3 b h=some o→A3 b' h=some o'→img φ b o k→img φ b' o' k→b=b'
 gf:∀b o k,A3 b h=some o→img φ b o k→¬B.old k∧k < w.heap.size∧φ.f k=none
theorem Jm {w w':World} {base size n:Nat} {e:TypeId} {v:Value} {xs:List Value} (h:w.ownsRow base e size v n xs) (hk:∀k,v.ownBlock=some k→w'.heap[k]? = w.heap[k]?):w'.ownsRow base e size v n xs:=by
 refine⟨h.1,h.2.imp id ?_⟩;rintro⟨g,cap,cur,rfl,a,b,r⟩;exact⟨g,cap,cur,rfl,a,(hk g rfl).trans b,r⟩
theorem Dl {w:World} {k:Nat} {o:Obj} (h:w.heap[k]? = some o):k < w.heap.size:=(Array.getElem?_eq_some_iff.1 h).1
section
variable {B : Bas} {φ φ' : Phi} {h : AH} {w w' : World}
def SameO (φ φ':Phi) (b:Nat):AO→Prop
 |.row c _=>φ' b=φ b∧∀vs,VRl φ c vs→VRl φ' c vs
 |.grow _ _ _=>φ'.s b=φ.s b∧∀k o,φ.f k=some o→φ'.f k=some o
 |.map _ _=>φ' b=φ b∧∀k o,φ.f k=some o→φ'.f k=some o
 |.siter _ _=>φ' b=φ b
 |.mm _ _ _ _=>φ' b=φ b∧φ'.s b=φ.s b∧∀k o,φ.f k=some o→φ'.f k=some o
 |.gh _ _ _ _ j=>φ'.s b=φ.s b∧φ'.s j=φ.s j∧∀k o,φ.f k=some o→φ'.f k=some o
theorem SameO.img {b:Nat} {o:AO} (k:SameO φ φ' b o):img φ' b o=Sv.img φ b o:=by
 funext j
 cases o<;>simp only[SameO] at k<;>simp only[Sv.img]<;>first|rw[k.1,k.2.1]|rw[k.1]|rw[k]
theorem Dd (h:∀k o,φ.f k=some o→φ'.f k=some o):φ.fz.le φ'.fz:=⟨fun _ _ e=>(by cases e),fun _ _ e=>(by cases e),h⟩
theorem At.imp {b:Nat} {o:AO} (k:At B φ w b o) (s:SameO φ φ' b o) (hw:∀j,Sv.img φ b o j→w'.heap[j]? = w.heap[j]?):At B φ' w' b o:=by
 cases o with
 |row c e =>
  obtain⟨x,κ,vs,h1,h2,h3⟩:=k;exact⟨x,κ,vs,by rw[s.1,h1],(hw x (by simp[Sv.img,h1])).trans h2,s.2 _ h3⟩
 |grow es e sz =>
  obtain⟨v,vs,h1,h2,h3,h4⟩:=k;exact⟨v,vs,by rw[s.1,h1],Jm h2 (fun j hj=>hw j (by simp[Sv.img,h1,hj])),h3.mono (Dd s.2),h4⟩
 |map es clk =>
  obtain⟨x,κ,l,h1,h2,h3⟩:=k;exact⟨x,κ,l,by rw[s.1,h1],(hw x (by simp[Sv.img,h1])).trans h2,h3.mono (Dd s.2)⟩
 |siter t p =>
  obtain⟨x,κ,h1,h2⟩:=k;exact⟨x,κ,by rw[show φ' b=φ b from s,h1],(hw x (by simp[Sv.img,h1])).trans h2⟩
 |mm g hole e sz =>
  obtain⟨x,κ,es,clk,m,h1,h2,h3,h4,h5,h6,h7,h8,h9⟩:=k;refine⟨x,κ,es,clk,m,by rw[s.1,h1],(hw x (.inl (by rw[h1];rfl))).trans h2,h3,h4,by rw[s.2.1,h5],fun t u hu ht=>?_,h7,h8,h9⟩;obtain⟨vs,a1,a2,a3⟩:=h6 t u hu ht;obtain⟨l,b1,b2⟩:=Sf h4 hu ht;exact⟨vs,Jm a1 (fun j hj=>hw j (.inr ⟨l,by rw[h5,b1],u,b2,hj⟩)),a2.mono (Dd s.2.2),a3⟩
 |gh es e sz o j =>
  obtain⟨v,vs,hd,h1,h2,h3,h4,h5,h6⟩:=k;exact⟨v,vs,hd,by rw[s.1,h1],Jm h2 (fun j hj=>hw j (by simp[Sv.img,h1,hj])),h3.mono (Dd s.2.2),h4,by rw[s.2.1,h5],h6⟩
theorem Rel.frame (r:Rel B φ h w) (hs:∀b o,A3 b h=some o→SameO φ φ' b o) (hb:Bel B w') (hsz:w.heap.size≤w'.heap.size) (hf:∀b o,φ'.f b=some o→w'.heap[b]? = some o)
  (hk:∀b o k,A3 b h=some o→img φ b o k→w'.heap[k]? = w.heap[k]? ∧ φ'.f k=none):Rel B φ' h w' :=
 ⟨hb,hf,fun b o e=>(r.obj b o e).imp (hs b o e) (fun j hj=>(hk b o j e hj).1),
  fun b b' o o' k e e' i i'=>r.sep b b' o o' k e e' (by rw[←(hs b o e).img];exact i) (by rw[←(hs b' o' e').img];exact i'),
  fun b o k e i=>by
  rw[(hs b o e).img] at i;have:=r.gf b o k e i
  exact⟨this.1,Nat.lt_of_lt_of_le this.2.1 hsz,(hk b o k e i).2⟩⟩
theorem Rel.del (r:Rel B φ h w) (b:Nat):Rel B φ (Cr b h) w :=
 ⟨r.below,r.fro,fun c o e=>r.obj c o (D6 e).2,fun c c' o o' k e e'=>r.sep c c' o o' k (D6 e).2 (D6 e').2,fun c o k e=>r.gf c o k (D6 e).2⟩
theorem Rel.add (r:Rel B φ h w) {b:Nat} {o:AO} (ha:At B φ w b o) (hi:∀k,img φ b o k→¬B.old k∧k < w.heap.size∧φ.f k=none∧∀c o',c≠b→A3 c h=some o'→¬img φ c o' k):Rel B φ (B1 b o h) w:=by
 have key:∀c o',A3 c (B1 b o h)=some o'→(c=b∧o'=o)∨(c≠b∧A3 c h=some o'):=by
  intro c o' e;by_cases hc:c=b
  ·subst hc;rw[Iz] at e;cases e;exact .inl ⟨rfl,rfl⟩
  ·rw[Hp o hc] at e;exact .inr ⟨hc,e⟩
 refine⟨r.below,r.fro,?_,?_,?_⟩
 ·intro c o' e;rcases key c o' e with⟨rfl,rfl⟩|⟨_,e⟩
  ·exact ha
  ·exact r.obj c o' e
 ·intro c c' o1 o2 k e1 e2 i1 i2;rcases key c o1 e1 with⟨rfl,rfl⟩|⟨n1,f1⟩<;>rcases key c' o2 e2 with⟨rfl,rfl⟩|⟨n2,f2⟩
  ·rfl
  ·exact absurd i2 ((hi k i1).2.2.2 c' o2 n2 f2)
  ·exact absurd i1 ((hi k i2).2.2.2 c o1 n1 f1)
  ·exact r.sep c c' o1 o2 k f1 f2 i1 i2
 ·intro c o' k e i;rcases key c o' e with⟨rfl,rfl⟩|⟨_,e⟩
  ·exact⟨(hi k i).1,(hi k i).2.1,(hi k i).2.2.1⟩
  ·exact r.gf c o' k e i
theorem SameO.of_le (hle:φ.le φ') {b:Nat} {o:AO} (ha:At B φ w b o):SameO φ φ' b o:=by
 cases o with
 |row c e=>obtain⟨x,κ,vs,h1,_⟩:=ha;exact⟨by rw[h1];exact hle.m _ _ h1,fun _ k=>k.mono hle⟩
 |grow es e sz=>obtain⟨v,us,h1,_⟩:=ha;exact⟨by rw[h1];exact hle.s _ _ h1,hle.f⟩
 |map es clk=>obtain⟨x,κ,l,h1,_⟩:=ha;exact⟨by rw[h1];exact hle.m _ _ h1,hle.f⟩
 |siter t p=>obtain⟨x,κ,h1,_⟩:=ha;show φ' b=φ b;rw[h1];exact hle.m _ _ h1
 |mm g hole e sz=>obtain⟨x,κ,es,clk,m,h1,_,_,_,h5,_⟩:=ha;exact⟨by rw[h1];exact hle.m _ _ h1,by rw[h5];exact hle.s _ _ h5,hle.f⟩
 |gh es e sz o j=>obtain⟨v,us,hd,h1,_,_,_,h5,_⟩:=ha;exact⟨by rw[h1];exact hle.s _ _ h1,by rw[h5];exact hle.s _ _ h5,hle.f⟩
theorem Rel.go (r:Rel B φ h w) (hle:φ.le φ') (hb:Below w.heap.size w w') (hf:∀b o,φ'.f b=some o→w'.heap[b]? = some o) (hn:∀b o,φ'.f b=some o→φ.f b=some o∨w.heap.size≤b):Rel B φ' h w' :=
 r.frame (fun b o e=>SameO.of_le hle (r.obj b o e)) (r.below.go hb) hb.size hf fun b o k e i=>by
  have:=r.gf b o k e i;refine⟨hb.block k this.2.1,?_⟩
  cases hx:φ'.f k with
  |none=>rfl
  |some x =>
   rcases hn k x hx with q|q
   ·rw[this.2.2] at q;cases q
   ·omega
theorem Rel.drew (r:Rel B φ h w) {k:Nat}:Rel B φ h (w.drewN k) :=
 ⟨⟨r.below.os,r.below.tape,r.below.output,r.below.size,r.below.block⟩,r.fro,fun b o e=>by have:=r.obj b o e;cases o<;>exact this,r.sep,r.gf⟩
def Phi.ext (φ:Phi) (b x:Nat):Phi:=⟨fun i=>if i=b then some (x,0) else φ i,φ.s,φ.f⟩
theorem Phi.ext_same (φ:Phi) (b x:Nat):(φ.ext b x) b=some (x,0):=if_pos rfl
theorem Phi.ext_le {φ:Phi} {b x:Nat} (h:φ b=none):φ.le (φ.ext b x) :=
 ⟨fun i y e=>by show(if i=b then _ else _)=_;rw[if_neg (by rintro rfl;rw[h] at e;cases e)];exact e,fun _ _ e=>e,fun _ _ e=>e⟩
theorem Rel.alloc (r:Rel B φ h w) {b:Nat} (hb:φ b=none) {o:AO} {ob:Obj} (hng:On o=true) (ha:At B (φ.ext b w.heap.size) (w.alloc ob) b o):Rel B (φ.ext b w.heap.size) (B1 b o h) (w.alloc ob):=by
 have h1:Rel B (φ.ext b w.heap.size) h (w.alloc ob):=r.go (Phi.ext_le hb) ((Below.refl _ w).alloc (Nat.le_refl _) ob) (fun c o' e=>(heap_alloc_old w ob (Dl (r.fro c o' e))).trans (r.fro c o' e)) (fun c o' e => .inl e);refine h1.add ha fun k hk=>?_
 have hk':k=w.heap.size:=by
  cases o with
  |grow=>cases hng
  |mm=>cases hng
  |gh=>cases hng
  |_=>simp only[img,Phi.ext_same,Option.map_some,Option.some.injEq] at hk;exact hk.symm
 subst hk';refine⟨r.below.fresh,by simp,?_,fun c o' hc e i=>?_⟩
 ·show φ.f w.heap.size=none
  cases hx:φ.f w.heap.size with
  |none=>rfl
  |some x=>have:=Dl (r.fro _ _ hx);omega
 ·have s:SameO φ (φ.ext b w.heap.size) c o':=SameO.of_le (Phi.ext_le hb) (r.obj c o' e);rw[s.img] at i;have:=(r.gf c o' _ e i).2.1;omega
theorem Rel.set (r:Rel B φ h w) {b x κ:Nat} {o o':AO} (hb:A3 b h=some o) (hg:On o=true) (hg':On o'=true) (hx:φ b=some (x,κ))
  (hos:w'.os=w.os) (htape:w'.tape=w.tape) (hout:w'.output=w.output) (hsize:w'.heap.size=w.heap.size) (hother:∀j,j≠x→w'.heap[j]? = w.heap[j]?) (ha:At B φ w' b o'):Rel B φ (B1 b o' h) w':=by
 have hi:img φ b o x:=by
  cases o with
  |grow=>cases hg
  |mm=>cases hg
  |gh=>cases hg
  |_=>simp[img,hx]
 have hxx:=r.gf b o x hb hi
 have h1:Rel B φ (Cr b h) w':=(r.del b).frame (fun c o1 e=>SameO.of_le (Phi.le_refl φ) (r.obj c o1 (D6 e).2)) (r.below.to hos htape hout (by rw[hsize];exact Nat.le_refl _) fun j hj=>hother j (by rintro rfl;exact hxx.1 hj)) (by rw[hsize];exact Nat.le_refl _)
  (fun c o1 e=>by rw[hother c (by rintro rfl;rw[hxx.2.2] at e;cases e)];exact r.fro c o1 e)
  (fun c o1 k e i=>by
   have e':=D6 e
   exact⟨hother k (by rintro rfl;exact e'.1 (r.sep c b o1 o k e'.2 hb i hi)),(r.gf c o1 k e'.2 i).2.2⟩)
 have h2:Rel B φ (B1 b o' (Cr b h)) w':=h1.add ha fun k hk=>by
  have:k=x:=by
   cases o' with
   |grow=>cases hg'
   |mm=>cases hg'
   |gh=>cases hg'
   |_=>simp[img,hx] at hk;exact hk.symm
  subst this;exact⟨hxx.1,by rw[hsize];exact hxx.2.1,hxx.2.2,fun c o1 hc e i=>hc (r.sep c b o1 o k (D6 e).2 hb i hi)⟩
 have key:∀c,A3 c (B1 b o' (Cr b h))=A3 c (B1 b o' h):=by
  intro c;by_cases hc:c=b
  ·subst hc;rw[Iz,Iz]
  ·rw[Hp _ hc,Hp _ hc,Hq hc]
 exact⟨h2.below,h2.fro,fun c o1 e=>h2.obj c o1 (by rw[key];exact e),fun c c' o1 o2 k e e'=>h2.sep c c' o1 o2 k (by rw[key];exact e) (by rw[key];exact e'),fun c o1 k e=>h2.gf c o1 k (by rw[key];exact e)⟩
end
theorem Y57 {P:Program} {n:Nat} {σ:Nat→Value} {w:World} {dst:Option Tmp} {x y:Operand} {t t' ty:TypeId} {ps:String} {af:Array Edge} {g:Option (Nat × Bool)} {k:IntKind} {a b:Int}
  (hx:ev n σ x = .int k a) (hy:ev n σ y = .int k b) (hr:b≠0∧kLo k≤a.tdiv b∧a.tdiv b≤kHi k):(execOp (ev n σ) ⟨dst,.binOp .quo t x y t',ty,ps,af,g⟩).run P w = .ok (.value (.int k (a.tdiv b))) w:=by
 have h1:=hr.1;have h2:=Nk k _ hr.2;simp[execOp,hx,hy,go_sem,Op.intDiv,h1,h2]
theorem Y55 {P:Program} {n:Nat} {σ:Nat→Value} {w:World} {dst:Option Tmp} {x y:Operand} {t t' ty:TypeId} {ps:String} {af:Array Edge} {g:Option (Nat × Bool)} {k:IntKind} {a b:Int}
  (hx:ev n σ x = .int k a) (hy:ev n σ y = .int k b) (hr:b≠0):(execOp (ev n σ) ⟨dst,.binOp .rem t x y t',ty,ps,af,g⟩).run P w = .ok (.value (.int k (a.tmod b))) w:=by
 simp[execOp,hx,hy,go_sem,Op.intDiv,hr]
section
variable (P : Program) (ev : Operand → Option AV)
noncomputable def kEq (k k':IntKind):Bool:=match k,k' with
 |.i8,.i8 | .i16,.i16 | .i32,.i32 | .i64,.i64 | .u8,.u8 | .u16,.u16 | .u32,.u32 | .u64,.u64=>true
 |_,_=>false
theorem Wr {k k':IntKind} (h:kEq k k'=true):k=k':=by cases k<;>cases k'<;>first|rfl|cases h
noncomputable def Ug (t:Nat):Bool:=match P.underlying t with
 |some .bool=>true
 |_=>false
noncomputable def Nq (t:Nat):Bool:=match P.underlying t with
 |some .string=>true
 |_=>false
noncomputable def Td (t:Nat):Option IntKind:=match P.underlying t with
 |some (.int k)=>some k
 |_=>none
noncomputable def Fj (t:Nat):Option Nat:=match P.underlying t with
 |some (.slice e)=>some e
 |_=>none
theorem Q7e {P:Program} {t:Nat} (h:Ug P t=true):P.underlying t=some .bool:=by unfold Ug at h;split at h<;>first|assumption|cases h
theorem R3 {P:Program} {t:Nat} (h:Nq P t=true):P.underlying t=some .string:=by unfold Nq at h;split at h<;>first|assumption|cases h
theorem Q3q {P:Program} {t:Nat} {k:IntKind} (h:Td P t=some k):P.underlying t=some (.int k):=by
 unfold Td at h;split at h
 ·rename_i k' hk;cases h;exact hk
 ·cases h
theorem Ef {P:Program} {t e:Nat} (h:Fj P t=some e):P.underlying t=some (.slice e):=by
 unfold Fj at h;split at h
 ·rename_i k' hk;cases h;exact hk
 ·cases h
abbrev PC:=Option (AV × Option Prop)
noncomputable def Q31 (op:BinOp) (k:IntKind) (a b:Int):PC:=match op with
 |.add=>some (.int k (a+b),some (kLo k≤a+b∧a+b≤kHi k))
 |.sub=>some (.int k (a-b),some (kLo k≤a-b∧a-b≤kHi k))
 |.mul=>some (.int k (a*b),some (kLo k≤a*b∧a*b≤kHi k))
 |.quo=>some (.int k (a.tdiv b),some (b≠0∧kLo k≤a.tdiv b∧a.tdiv b≤kHi k))
 |.rem=>some (.int k (a.tmod b),some (b≠0))
 |.lss=>some (.bool (decide (a < b)),none)
 |.leq=>some (.bool (decide (a≤b)),none)
 |.gtr=>some (.bool (decide (b < a)),none)
 |.geq=>some (.bool (decide (b≤a)),none)
 |.eql=>some (.bool (decide (a=b)),none)
 |.neq=>some (.bool (!decide (a=b)),none)
 |_=>none
noncomputable def Zv (op:BinOp) (l m:List UInt8):PC:=match op with
 |.add=>some (.str (l++m),some (l.length+m.length≤9223372036854775807))
 |.lss=>some (.bool (Op.bytesLess l m),none)
 |.eql=>some (.bool (decide (l=m)),none)
 |.neq=>some (.bool (!decide (l=m)),none)
 |_=>none
noncomputable def Q7f (op:BinOp) (t:Nat) (a b:Bool):PC:=match op with
 |.eql=>bif Ug P t then some (.bool (a == b),none) else none
 |.neq=>bif Ug P t then some (.bool (!(a == b)),none) else none
 |_=>none
noncomputable def Q7i (op:BinOp) (t:Nat) (x y:Operand):PC:=match ev x,ev y with
 |some (.int k a),some (.int k' b)=>bif kEq k k' then Q31 op k a b else none
 |some (.str l),some (.str m)=>Zv op l m
 |some (.bool a),some (.bool b)=>Q7f P op t a b
 |_,_=>none
noncomputable def Kv (a b:Option Prop):Option Prop:=match a,b with
 |none,b=>b
 |a,none=>a
 |some p,some q=>some (p∧q)
noncomputable def Bk:Option Prop→Prop
 |none=>True
 |some p=>p
theorem Q5 {a b:Option Prop} (h:Bk (Kv a b)):Bk a∧Bk b:=by
 cases a<;>cases b<;>first|exact⟨trivial,h⟩|exact⟨h,trivial⟩|exact h
noncomputable def loC:Option Operand→Option (Int)
 |none=>some 0
 |some x=>match ev x with
  |some (.int _ a)=>some a
  |_=>none
noncomputable def hiC (d:Nat):Option Operand→Option (Int)
 |none=>some (d:Int)
 |some x=>match ev x with
  |some (.int _ a)=>some a
  |_=>none
noncomputable def Q1e (t:Nat) (x:Operand) (lo hi:Option Operand):PC:=match ev x with
 |some (.str l)=>bif Nq P t then match loC ev lo,hiC ev l.length hi with
   |some i,some j=>some (.str ((l.take j.toNat).drop i.toNat),some (0≤i∧i≤j∧j≤l.length))
   |_,_=>none
  else none
 |some (.row sz n g)=>match Fj P t with
  |some e=>bif (match tsz P e with|some s=>Nat.beq s sz&&Nat.blt 0 sz|none=>false) then match loC ev lo,hiC ev n hi with
    |some i,some j=>some (.row sz (j.toNat-i.toNat) (fun k=>g (i.toNat+k)),some (0≤i∧i≤j∧j≤n))
    |_,_=>none
   else none
  |none=>none
 |_=>none
noncomputable def Q4a (t:Nat) (x i:Operand):PC:=match ev x,ev i with
 |some (.str l),some (.int _ a)=>bif Nq P t then some (.int .u8 ((Af l a.toNat).toNat:Int),some (0≤a∧a.toNat < l.length)) else none
 |_,_=>none
noncomputable def Q8c (t:Nat) (x i:Operand):PC:=match ev x,ev i with
 |some (.row sz n g),some (.int _ a)=>match Fj P t with
  |some e=>bif (match tsz P e with|some s=>Nat.beq s sz|none=>false) then some (.fp (g a.toNat),some (0≤a∧a.toNat < n)) else none
  |none=>none
 |some (.fp (.agg l)),some (.int _ a)=>match P.underlying t with
  |some (.array len e)=>match tsz P e,l[a.toNat]? with
   |some s,some v=>bif Nat.beq s 1&&one v then some (.fp v,some (0≤a∧a.toNat < len)) else none
   |_,_=>none
  |_=>none
 |_,_=>none
noncomputable def Q6v (s d:Nat) (x:Operand):PC:=match ev x with
 |some (.int k a)=>match Td P s,Td P d with
  |some k1,some k2=>bif kEq k k1 then some (.int k2 a,some (kLo k2≤a∧a≤kHi k2)) else none
  |_,_=>none
 |_=>none
noncomputable def Q2y (op:UnOp) (x:Operand):PC:=match op with
 |.neg=>match ev x with
  |some (.int k a)=>some (.int k (0-a),some (kLo k≤0-a∧0-a≤kHi k))
  |_=>none
 |_=>none
noncomputable def Q3m (c:Call):PC:=match c.callee with
 |.builtin .len=>match c.args.toList,c.argTypes.toList with
  |[x],[t]=>match ev x with
   |some (.row _ n _)=>match Fj P t with
    |some _=>some (.int .i64 (n:Int),none)
    |none=>none
   |_=>none
  |_,_=>none
 |_=>none
noncomputable def Q4q (s:Nat) (x:Operand) (f:Nat):PC:=match ev x with
 |some (.fp (.agg l))=>match P.underlying s with
  |some (.struct fields)=>match fields.toList[f]? with
   |some fd=>match tsz P fd.type with
    |some (m+1)=>match Hz P fd.type with
     |some true=>some (.fp (.agg ((l.drop fd.offset).take (m+1))),none)
     |some false=>match l[fd.offset]? with
      |some a=>bif one a&&!Et a then some (.fp a,none) else none
      |none=>none
     |none=>none
    |_=>none
   |none=>none
  |_=>none
 |_=>none
noncomputable def Q1b (c x y:Operand):PC:=match ev c,ev x,ev y with
 |some (.bool q),some (.bool a),some (.bool b)=>some (.bool (bif q then a else b),none)
 |some (.bool q),some (.cond q' (.bool a)),some (.bool b)=>some (.bool (bif q then a else b),some (q=true→q'=true))
 |some (.bool q),some (.bool a),some (.cond q' (.bool b))=>some (.bool (bif q then a else b),some (q=false→q'=true))
 |_,_,_=>none
noncomputable def orP (a:PC) (b:Option AV):PC:=match a with
 |some r=>some r
 |none=>match b with
  |some a=>some (a,none)
  |none=>none
noncomputable def Pu (o:Oper):PC:=match o.op with
 |.pick c x y=>orP (Q1b ev c x y) (G4 P ev o)
 |.binOp op t x y _=>orP (Q7i P ev op t x y) (G4 P ev o)
 |.unOp op t x=>orP (Q2y ev op x) (G4 P ev o)
 |.convert s d x=>orP (Q6v P ev s d x) (G4 P ev o)
 |.fieldAddr s x f=>orP (Q4q P ev s x f) (G4 P ev o)
 |.indexAddr t x i=>orP (Q8c P ev t x i) (G4 P ev o)
 |.index t x i=>orP (Q4a P ev t x i) (G4 P ev o)
 |.slice t x lo hi none=>orP (Q1e P ev t x lo hi) (G4 P ev o)
 |.nilCheck x=>match ev x with
  |some (.fp a)=>some (.fp a,none)
  |_=>orP none (G4 P ev o)
 |.call c=>orP (Q3m P ev c) (G4 P ev o)
 |_=>orP none (G4 P ev o)
end
section
variable {P : Program} {eA : Operand → Option AV} {φ : Phi} {n : Nat} {σ : Nat → Value}
theorem Ja {k:IntKind} {a:Int}:VR φ (.int k a) (.int k a):=by simp[VR]
theorem K1 {b:Bool}:VR φ (.bool b) (.bool b):=by simp[VR]
theorem Q8p {l:List UInt8}:VR φ (.str l) (S l):=by simp[VR]
theorem Ia {a:PC} {b:Option AV} {r:AV × Option Prop} (h:orP a b=some r):a=some r∨(b=some r.1∧r.2=none):=by
 unfold orP at h;split at h
 ·exact .inl h
 ·split at h
  ·cases h;exact .inr ⟨rfl,rfl⟩
  ·cases h
theorem Q3h (hev:EVR φ eA (ev n σ)) {lo:Option Operand} {i:Int} (h:loC eA lo=some i):(lo=none∧i=0)∨∃x k,lo=some x∧ev n σ x = .int k i:=by
 unfold loC at h;split at h
 ·cases h;exact .inl ⟨rfl,rfl⟩
 ·rename_i x;split at h
  ·rename_i k a hx;cases h;have:=hev _ _ hx;simp only[VR] at this;exact .inr ⟨x,k,rfl,this⟩
  ·cases h
theorem Q4f (hev:EVR φ eA (ev n σ)) {hi:Option Operand} {d:Nat} {i:Int} (h:hiC eA d hi=some i):(hi=none∧i=d)∨∃x k,hi=some x∧ev n σ x = .int k i:=by
 unfold hiC at h;split at h
 ·cases h;exact .inl ⟨rfl,rfl⟩
 ·rename_i x;split at h
  ·rename_i k a hx;cases h;have:=hev _ _ hx;simp only[VR] at this;exact .inr ⟨x,k,rfl,this⟩
  ·cases h
theorem Q4l {b o i s:Nat}:(⟨b,o,none⟩:Addr).add (i*s)=⟨b,o+i*s,none⟩:=Fb b o (i*s)
theorem Eo {q:Bool} {α:Type} {x:α} {r:α} {f:Option α} (h:(bif q then some x else none)=some r):q=true∧x=r:=by
 cases q
 ·cases h
 ·cases h;exact⟨rfl,rfl⟩
theorem V3 (hev:EVR φ eA (ev n σ)) {o:Oper} {a:AV} {C:Option Prop} (h:Pu P eA o=some (a,C)) (hC:Bk C):Pc P φ (ev n σ) o a:=by
 have fall:∀{r:AV × Option Prop},r=(a,C)→G4 P eA o=some r.1→Pc P φ (ev n σ) o a:=fun e h=>by subst e;exact X23 hev h
 obtain⟨dst,op,ty,ps,af,g⟩:=o;cases op<;>simp only[Pu] at h
 case pick c x y =>
  rcases Ia h with h|h
  ·unfold Q1b at h;split at h
   ·rename_i q a' b' hc hx hy;cases h;have hc:=hev _ _ hc;have hx:=hev _ _ hx;have hy:=hev _ _ hy;simp only[VR] at hc hx hy;exact⟨.bool (bif q then a' else b'),fun w=>by cases q<;>simp[execOp,hc,hx,hy,asBool,go_sem],K1⟩
   ·rename_i q q' a' b' hc hx hy;cases h;have hc:=hev _ _ hc;have hx:=hev _ _ hx;have hy:=hev _ _ hy;simp only[VR] at hc hx hy;refine⟨.bool (bif q then a' else b'),fun w=>?_,K1⟩;cases q
    ·simp[execOp,hc,hy,asBool,go_sem]
    ·simp[execOp,hc,hx.1 (hC rfl),asBool,go_sem]
   ·rename_i q a' q' b' hc hx hy;cases h;have hc:=hev _ _ hc;have hx:=hev _ _ hx;have hy:=hev _ _ hy;simp only[VR] at hc hx hy;refine⟨.bool (bif q then a' else b'),fun w=>?_,K1⟩;cases q
    ·simp[execOp,hc,hy.1 (hC rfl),asBool,go_sem]
    ·simp[execOp,hc,hx,asBool,go_sem]
   ·cases h
  ·exact fall rfl h.1
 case binOp op t x y t' =>
  rcases Ia h with h|h
  ·unfold Q7i at h;split at h
   ·rename_i k a' k' b' hx hy;have hx:=hev _ _ hx;have hy:=hev _ _ hy;simp only[VR] at hx hy
    cases hk:kEq k k' with
    |false=>rw[hk] at h;cases h
    |true =>
     rw[hk,cond_true] at h;have:=Wr hk;subst this;cases op<;>simp only[Q31,reduceCtorEq,Option.some.injEq,Prod.mk.injEq] at h<;>(try (exact h.elim))<;>obtain⟨rfl,rfl⟩:=h
     ·exact⟨_,fun w=>Uv hx hy hC,Ja⟩
     ·exact⟨_,fun w=>Q85 hx hy hC,Ja⟩
     ·exact⟨_,fun w=>Y6a hx hy hC,Ja⟩
     ·exact⟨_,fun w=>Y57 hx hy hC,Ja⟩
     ·exact⟨_,fun w=>Y55 hx hy hC,Ja⟩
     all_goals exact⟨_,fun w=>Ji (by simp only[Jj,hx,hy,Ny,if_true]),K1⟩
   ·rename_i l m hx hy;have hx:=hev _ _ hx;have hy:=hev _ _ hy;simp only[VR] at hx hy;cases op<;>simp only[Zv,reduceCtorEq,Option.some.injEq,Prod.mk.injEq] at h<;>(try (exact h.elim))<;>obtain⟨rfl,rfl⟩:=h
    ·exact⟨_,fun w=>Rj hx hy hC,Q8p⟩
    ·exact⟨_,fun w=>Yv hx hy,K1⟩
    ·exact⟨_,fun w=>Y53 hx hy,K1⟩
    ·exact⟨_,fun w=>Y54 hx hy,K1⟩
   ·rename_i a' b' hx hy;have hx:=hev _ _ hx;have hy:=hev _ _ hy;simp only[VR] at hx hy;cases op<;>simp only[Q7f,reduceCtorEq] at h
    ·obtain⟨h1,h2⟩:=Eo (f:=none) h;cases h2;exact⟨_,fun w=>Y6k hx hy (Q7e h1),K1⟩
    ·obtain⟨h1,h2⟩:=Eo (f:=none) h;cases h2;exact⟨_,fun w=>Y6j hx hy (Q7e h1),K1⟩
   ·cases h
  ·exact fall rfl h.1
 case unOp op t x =>
  rcases Ia h with h|h
  ·unfold Q2y at h;split at h
   ·split at h
    ·rename_i k a' hx;cases h;have hx:=hev _ _ hx;simp only[VR] at hx;exact⟨_,fun w=>Y59 hx hC rfl,Ja⟩
    ·cases h
   ·cases h
  ·exact fall rfl h.1
 case convert s d x =>
  rcases Ia h with h|h
  ·unfold Q6v at h;split at h
   ·rename_i k a' hx;have hx:=hev _ _ hx;simp only[VR] at hx;split at h
    ·rename_i k1 k2 h1 h2;obtain⟨h3,h4⟩:=Eo (f:=none) h;cases h4;have:=Wr h3;subst this;exact⟨_,fun w=>Y6h hx (Q3q h1) (Q3q h2) hC,Ja⟩
    ·cases h
   ·cases h
  ·exact fall rfl h.1
 case fieldAddr s x f =>
  rcases Ia h with h|h
  ·unfold Q4q at h;split at h
   ·rename_i l hx;have hx:=hev _ _ hx;simp only[VR] at hx;obtain⟨b,o,u,hv,⟨vs,hvs,rfl⟩,cs,e,fr,hf,hl⟩:=hx
    have hcs:(Value.agg vs.toArray).cells.toList=vs:=by simp[Value.cells]
    rw[hcs] at hl;split at h
    ·rename_i fields hs;split at h
     ·rename_i fd hfd;split at h
      ·rename_i k hk
       have hrun:∀w,(execOp (ev n σ) ⟨dst,.fieldAddr s x f,ty,ps,af,g⟩).run P w = .ok (.value (.pointer (some ⟨b,o+fd.offset,none⟩))) w:=by
        intro w
        have h1:fields[f]? = some fd:=by simpa using hfd
        simp[execOp,hv,Instr.fieldAt,Instr.sureAddr,fieldPlace,run_underlying hs,h1,C4 hk,Fb,go_sem]
       have lie:∀us:List Value,(∀j u,us[j]? = some u→vs[fd.offset+j]? = some u)→LieAt φ.f b (o+fd.offset) us:=fun us hu=>⟨cs,e,fr,hf,fun j u hj=>by rw[Nat.add_assoc];exact hl _ u (hu j u hj)⟩
       split at h
       ·cases h;refine⟨_,hrun,?_⟩;simp only[VR];refine⟨b,o+fd.offset,.agg ((vs.drop fd.offset).take (k+1)).toArray,rfl,⟨_,(hvs.drop fd.offset).take (k+1),rfl⟩,lie _ fun j u hj=>?_⟩;simp only[Value.cells,List.toList_toArray] at hj;obtain⟨hlt,_⟩:=List.getElem?_eq_some_iff.1 hj;rw[List.getElem?_take_of_lt (by simp at hlt;omega),List.getElem?_drop] at hj;exact hj
       ·split at h
        ·rename_i a' hp;obtain⟨h3,h4⟩:=Eo (f:=none) h;cases h4;simp only[Bool.and_eq_true,Bool.not_eq_true'] at h3;obtain⟨v,hv1,hv2⟩:=hvs.get hp;refine⟨_,hrun,?_⟩;simp only[VR];refine⟨b,o+fd.offset,v,rfl,hv2,lie _ fun j u hj=>?_⟩;rw[(hv2.one h3.1).2] at hj
         cases j with
         |zero=>simp at hj;subst hj;exact hv1
         |succ j=>simp at hj
        ·cases h
       ·cases h
      ·cases h
     ·cases h
    ·cases h
   ·cases h
  ·exact fall rfl h.1
 case indexAddr t x i =>
  rcases Ia h with h|h
  ·unfold Q8c at h;split at h
   ·rename_i sz m g' k a' hx hi;have hx:=hev _ _ hx;have hi:=hev _ _ hi;simp only[VR] at hx hi;split at h
    ·rename_i e he;obtain⟨h3,h4⟩:=Eo (f:=none) h;cases h4;split at h3
     ·rename_i s hs;have:=Nat.eq_of_beq_eq_true h3;subst this;obtain⟨hc1,hc2⟩:=hC;obtain⟨u,hu,hr⟩:=hx
      obtain⟨j,rfl⟩:∃j:Nat,a'=(j:Int):=⟨a'.toNat,by omega⟩
      simp only[Int.toNat_natCast] at hc2 ⊢;rcases hr with⟨h0,_⟩|⟨b,o,c,hv,_,hl⟩
      ·omega
      ·refine⟨.pointer (some ⟨b,o+j*s,none⟩),fun w=>?_,?_⟩
       ·have h1:(0:Int)≤(j:Int)∧(j:Int) < (m:Int):=by omega
        simp[execOp,Instr.indexAt,asIntOf,hv,hi,run_underlying (Ef he),C4 hs,h1,hc2,Q4l,go_sem]
       ·simp only[VR];exact⟨b,o+j*s,u j,rfl,hu j hc2,(hl j hc2).2⟩
     ·cases h3
    ·cases h
   ·rename_i l k a' hx hi;have hx:=hev _ _ hx;have hi:=hev _ _ hi;simp only[VR] at hx hi;split at h
    ·rename_i len e he;split at h
     ·rename_i s v0 hs hp;obtain⟨h3,h4⟩:=Eo (f:=none) h;cases h4;simp only[Bool.and_eq_true] at h3;have:=Nat.eq_of_beq_eq_true h3.1;subst this;obtain⟨hc1,hc2⟩:=hC
      obtain⟨j,rfl⟩:∃j:Nat,a'=(j:Int):=⟨a'.toNat,by omega⟩
      simp only[Int.toNat_natCast] at hc2 hp;obtain⟨b,o,u,hv,⟨vs,hvs,rfl⟩,cs,e',fr,hf,hl⟩:=hx
      have hcs:(Value.agg vs.toArray).cells.toList=vs:=by simp[Value.cells]
      rw[hcs] at hl;obtain⟨v,hv1,hv2⟩:=hvs.get hp;refine⟨.pointer (some ⟨b,o+j,none⟩),fun w=>?_,?_⟩
      ·have h1:(0:Int)≤(j:Int)∧(j:Int) < (len:Int):=by omega
       simp[execOp,Instr.indexAt,Instr.sureAddr,asIntOf,hv,hi,run_underlying he,C4 hs,h1,hc2,Fb,go_sem]
      ·simp only[VR];refine⟨b,o+j,v,rfl,hv2,cs,e',fr,hf,fun i u hj=>?_⟩;rw[(hv2.one h3.2).2] at hj
       cases i with
       |zero=>simp at hj;subst hj;exact hl j _ hv1
       |succ i=>simp at hj
     ·cases h
    ·cases h
   ·cases h
  ·exact fall rfl h.1
 case index t x i =>
  rcases Ia h with h|h
  ·unfold Q4a at h;split at h
   ·rename_i l k a' hx hi;have hx:=hev _ _ hx;have hi:=hev _ _ hi;simp only[VR] at hx hi;obtain⟨h3,h4⟩:=Eo (f:=none) h;cases h4;obtain⟨hc1,hc2⟩:=hC;exact⟨_,fun w=>Ri hx hi (R3 h3) (by omega) hc2,Ja⟩
   ·cases h
  ·exact fall rfl h.1
 case slice t x lo hi mx =>
  cases mx with
  | some m => simp only at h; rcases Ia h with h | h; · cases h
              exact fall rfl h.1
  |none =>
  simp only at h;rcases Ia h with h|h
  ·unfold Q1e at h;split at h
   ·rename_i l hx;have hx:=hev _ _ hx;simp only[VR] at hx
    cases hs:Nq P t with
    |false=>rw[hs] at h;cases h
    |true =>
     rw[hs,cond_true] at h;split at h
     ·rename_i i j hlo hhi;cases h;obtain⟨hc1,hc2,hc3⟩:=hC;refine⟨S ((l.take j.toNat).drop i.toNat),fun w=>?_,Q8p⟩;have hr:=Vu (P:=P) (t:=t) w l (lo.map (ev n σ)) (hi.map (ev n σ)) i.toNat j.toNat (R3 hs) ?_ ?_ (by omega) (by omega)
      ·simp[execOp,Instr.sliceAt,run_underlying (R3 hs),hx,hr,go_sem]
      ·rcases Q3h hev hlo with⟨rfl,rfl⟩|⟨y,k,rfl,hy⟩
       ·exact .inl ⟨rfl,rfl⟩
       ·exact .inr ⟨k,by simp only[Option.map_some,hy];congr 2;omega⟩
      ·rcases Q4f hev hhi with⟨rfl,rfl⟩|⟨y,k,rfl,hy⟩
       ·exact .inl ⟨rfl,by omega⟩
       ·exact .inr ⟨k,by simp only[Option.map_some,hy];congr 2;omega⟩
     ·cases h
   ·rename_i sz m g' hx;have hx:=hev _ _ hx;simp only[VR] at hx;split at h
    ·rename_i e he
     obtain⟨h3,h4⟩:(match tsz P e with|some s=>Nat.beq s sz&&Nat.blt 0 sz|none=>false)=true∧_:=by
      cases hq:(match tsz P e with|some s=>Nat.beq s sz&&Nat.blt 0 sz|none=>false) with
      |false=>rw[hq] at h;cases h
      |true=>rw[hq,cond_true] at h;exact⟨rfl,h⟩
     split at h3
     ·rename_i s hs;simp only[Bool.and_eq_true] at h3;have:=Nat.eq_of_beq_eq_true h3.1;subst this;split at h4
      ·rename_i i j hlo hhi;cases h4;obtain⟨hc1,hc2,hc3⟩:=hC
       obtain⟨i,rfl⟩:∃q:Nat,i=(q:Int):=⟨i.toNat,by omega⟩
       obtain⟨j,rfl⟩:∃q:Nat,j=(q:Int):=⟨j.toNat,by omega⟩
       simp only[Int.toNat_natCast];obtain⟨u,hu,hr⟩:=hx
       have l1:(lo.map (ev n σ)=none∧i=0)∨∃k,lo.map (ev n σ)=some (.int k (i:Int)):=by
        rcases Q3h hev hlo with⟨rfl,q⟩|⟨y,k,rfl,hy⟩
        ·exact .inl ⟨rfl,by omega⟩
        ·exact .inr ⟨k,by simp only[Option.map_some,hy]⟩
       have l2:(hi.map (ev n σ)=none∧j=m)∨∃k,hi.map (ev n σ)=some (.int k (j:Int)):=by
        rcases Q4f hev hhi with⟨rfl,q⟩|⟨y,k,rfl,hy⟩
        ·exact .inl ⟨rfl,by omega⟩
        ·exact .inr ⟨k,by simp only[Option.map_some,hy]⟩
       have hu':∀q,q < j-i→VR φ.fz (g' (i+q)) (u (i+q)):=fun q hq=>hu _ (by omega);rcases hr with⟨rfl,hv|⟨ad,c,hv⟩⟩|⟨b,o,c,hv,hmc,hl⟩
       ·obtain rfl:i=0:=by omega
        obtain rfl:j=0:=by omega
        have hb:=fun w=>H6 (P:=P) (isS:=true) (len:=0) (cap:=0) (m:=0) (mx:=none) l1 l2 (.inl ⟨rfl,rfl⟩) (Nat.le_refl _) (Nat.le_refl _) (Nat.le_refl _) w;refine⟨.slice none 0 0,fun w=>?_,by simp only[VR];exact⟨u,by simp,.inl ⟨rfl,.inl rfl⟩⟩⟩;simp only[execOp,Instr.sliceAt,Instr.slice,Sem.run_bind,Sem.run_pure,run_underlying (Ef he),Result.andThen_ok,hv,hb,C4 hs,Option.map_none]<;>(try split)<;>rfl
       ·obtain rfl:i=0:=by omega
        obtain rfl:j=0:=by omega
        have hb:=fun w=>H6 (P:=P) (isS:=true) (len:=0) (cap:=c) (m:=c) (mx:=none) l1 l2 (.inl ⟨rfl,rfl⟩) (Nat.le_refl _) (Nat.zero_le _) (Nat.le_refl _) w;refine⟨.slice (some (if c=0 then ad else ad.add (0*s))) 0 c,fun w=>?_,by simp only[VR];exact⟨u,by simp,.inl ⟨rfl,.inr ⟨_,_,rfl⟩⟩⟩⟩;simp only[execOp,Instr.sliceAt,Instr.slice,Sem.run_bind,Sem.run_pure,run_underlying (Ef he),Result.andThen_ok,hv,hb,C4 hs,Option.map_none]<;>(try split)<;>rfl
       ·have hb:=fun w=>H6 (P:=P) (isS:=true) (cap:=c) (m:=c) (mx:=none) l1 l2 (.inl ⟨rfl,rfl⟩) (by omega) (by omega) (Nat.le_refl _) w;refine⟨.slice (some (if c=i then ⟨b,o,none⟩ else (⟨b,o,none⟩:Addr).add (i*s))) (j-i) (c-i),fun w=>?_,?_⟩
        ·simp only[execOp,Instr.sliceAt,Instr.slice,Sem.run_bind,Sem.run_pure,run_underlying (Ef he),Result.andThen_ok,hv,hb,C4 hs,Option.map_none]<;>(try split)<;>rfl
        ·simp only[VR];refine⟨fun q=>u (i+q),hu',?_⟩;by_cases hci:j-i=0
         ·exact .inl ⟨hci,.inr ⟨_,_,by rw[hci]⟩⟩
         ·refine .inr ⟨b,o+i*s,c-i,by rw[if_neg (by omega),Fb],by omega,fun q hq=>?_⟩;have:=hl (i+q) (by omega);refine⟨this.1,?_⟩;rw[show o+i*s+q*s=o+(i+q)*s by rw[Nat.add_mul];omega];exact this.2
      ·cases h4
     ·cases h3
    ·cases h
   ·cases h
  ·exact fall rfl h.1
 case nilCheck x =>
  split at h
  ·rename_i a' hx;cases h;have hx:=hev _ _ hx;have hx':=hx;simp only[VR] at hx;obtain⟨b,o,u,hv,_⟩:=hx;refine⟨.pointer (some ⟨b,o,none⟩),fun w=>by simp[execOp,hv,go_sem],by rw[←hv];exact hx'⟩
  ·rcases Ia h with h|h
   ·cases h
   ·exact fall rfl h.1
 case call c =>
  rcases Ia h with h|h
  ·unfold Q3m at h;split at h
   ·rename_i hcal;split at h
    ·rename_i x t hargs htys;split at h
     ·rename_i sz m g' hx;split at h
      ·rename_i e he;cases h;have hx:=hev _ _ hx;simp only[VR] at hx;obtain⟨u,hu,hr⟩:=hx;obtain⟨cal,args,tys⟩:=c;simp only at hcal hargs htys;subst hcal
       have ha:args = #[x]:=by apply Array.ext';simpa using hargs
       have ht:tys = #[t]:=by apply Array.ext';simpa using htys
       subst ha ht;refine⟨_,fun w=>?_,Ja⟩;rcases hr with⟨rfl,hv|⟨a,c,hv⟩⟩|⟨b,o,c,hv,_⟩<;>simp[execOp,resolve,invoke,builtin,Builtin.len_,hv,run_underlying (Ef he),go_sem,goInt]
      ·cases h
     ·cases h
    ·cases h
   ·cases h
  ·exact fall rfl h.1
 all_goals (rcases Ia h with h|h<;>first|(cases h;done)|exact fall rfl h.1)
end
theorem Se {s:Sem Unit} {P:Program} {w w':World} (h:s.run P w = .ok () w'):((do s;pure .skip:Sem Next)).run P w = .ok .skip w':=by
 simp only[Sem.run_bind,h,Result.andThen_ok,Sem.run_pure]
theorem X16 {s:Sem Value} {P:Program} {w w':World} {v:Value} (h:s.run P w = .ok v w'):((do pure (.value (←s)):Sem Next)).run P w = .ok (.value v) w':=by
 simp only[Sem.run_bind,h,Result.andThen_ok,Sem.run_pure]
inductive NK where
 |ptr
 |sl (n c:Nat)
 |map
noncomputable def NK.av (k:NK) (b:Nat):AV:=match k with
 |.ptr => .ptr b 0
 |.sl n c => .sl b 0 n c false
 |.map => .map b
def NK.val (k:NK) (x:Nat):Value:=match k with
 |.ptr => .pointer (some ⟨x,0,none⟩)
 |.sl n c => .slice (some ⟨x,0,none⟩) n c
 |.map => .map (some x)
theorem NK.vr {φ:Phi} {k:NK} {b x κ:Nat} (h:φ b=some (x,κ)):VR φ (k.av b) (k.val x):=by
 cases k<;>simp only[NK.av,NK.val,VR]
 ·exact⟨x,κ,h,rfl⟩
 ·exact⟨x,κ,h,.inr ⟨trivial,rfl⟩⟩
 ·exact⟨x,κ,h,rfl⟩
section
variable (P : Program)
noncomputable def tby (t:Nat):Option Nat:=match P.info? t with
 |some i=>some i.bytes
 |none=>none
noncomputable def Uz (z:List AV) (n:Nat):List AV:=(List.range n).map fun i=>(z[i % z.length]?).getD (.tup [])
noncomputable def X5 (t len:Nat) (ps:List (Nat × AV)):Option (NK × AO):=match P.underlying t with
 |some (.slice e)=>match tsz P e with
  |some size=>match Jc P e with
   |some z=>bif Nat.beq (cellsOf z).length size&&!Et z&&Nat.blt 0 size&&Nat.ble (len*size) 1000000 then (match Oq (fun i=>some (i*size,size)) (Uz (cellsOf z) (len*size)) ps with
     |some c=>some (.sl len len,.row c e)
     |none=>none) else none
   |none=>none
  |none=>none
 |_=>none
noncomputable def Wi (t:Nat) (l c:AV):Option (NK × AO):=match P.underlying t with
 |some (.slice e)=>match tsz P e with
  |some size=>match Jc P e with
   |some z=>match tby P e with
    |some by_=>match Ld l with
     |some n=>match Ld c with
      |some m=>bif Nat.beq (cellsOf z).length size&&!Et z&&Nat.blt 0 size&&Nat.ble n m&&Nat.ble m 1000000&&Nat.ble (by_*m) 1000000000 then some (.sl n m,.row (Uz (cellsOf z) (m*size)) e) else none
      |none=>none
     |none=>none
    |none=>none
   |none=>none
  |none=>none
 |_=>none
noncomputable def S7 (ev:Operand→Option AV) (o:Oper):Option (NK × AO):=match o.op with
 |.alloc t=>match Jc P t with
  |some z=>bif Et z then none else some (.ptr,.row (cellsOf z) t)
  |none=>none
 |.box t x=>match ev x with
  |some a=>bif Et a then none else some (.ptr,.row (cellsOf a) t)
  |none=>none
 |.buildSlice t n parts=>match evp ev parts.toList with
  |some ps=>X5 P t n ps
  |none=>none
 |.makeSlice t l c=>match ev l with
  |some a=>match ev c with
   |some b=>Wi P t a b
   |none=>none
  |none=>none
 |.makeMap _ r=>match r with
  |none=>some (.map,.map [] 0)
  |some _=>none
 |_=>none
end
section
variable {P : Program} {φ : Phi} {ρ : Operand → Value} {ev : Operand → Option AV}
theorem U7 {P:Program} {t n m:Nat} (h1:tby P t=some n) (h2:tsz P t=some m):∃i,P.info? t=some i∧i.bytes=n∧i.size=m:=by
 unfold tby at h1;unfold tsz at h2;split at h1
 ·rename_i i hi;rw[hi] at h2;cases h1;cases h2;exact⟨i,hi,rfl,rfl⟩
 ·cases h1
theorem VRl.of_map {f:Nat→AV} {g:Nat→Value}:∀{l:List Nat},(∀i∈l,VR φ (f i) (g i))→VRl φ (l.map f) (l.map g)
 |[],_ => .nil
 |a::l,k => .cons (k a (by simp)) (VRl.of_map fun i hi=>k i (by simp[hi]))
theorem Y6 {z:List AV} {zs:Array Value} (hz:VRl φ z zs.toList) (hp:0 < z.length) (n:Nat):VRl φ (Uz z n) ((Array.range n).map fun i=>zs[i % zs.size]!).toList:=by
 rw[Array.toList_map,Array.toList_range];refine VRl.of_map fun i _=>?_
 have hl:zs.size=z.length:=by have:=hz.length;simpa using this
 have hlt:i % z.length < z.length:=Nat.mod_lt _ hp;rw[hl,List.getElem?_eq_getElem hlt];obtain⟨v,hv,hr⟩:=hz.get (i:=i % z.length) (List.getElem?_eq_getElem hlt)
 have hv':zs[i % z.length]! = v:=by
  rw[getElem!_def]
  have:zs[i % z.length]? = some v:=by simpa using hv
  rw[this]
 rw[hv'];exact hr
theorem K9 (e:Nat) (cs:Array Value) (w:World):(newRow e cs).run P w = .ok ⟨w.heap.size,0,none⟩ (w.alloc (.cells cs e)):=rfl
theorem Zd {n:Nat} (h:n≤1000000):IntKind.i64.wrap (n:Int)=(n:Int):=by
 simp only[IntKind.wrap,IntKind.signed,IntKind.bits];simp;omega
def Yz (P:Program) (φ:Phi) (s:Sem Value) (k:NK) (ao:AO):Prop:=(On ao=true)∧∃ob,(∀(B:Bas) (φ':Phi) (w:World) b x,φ.le φ'→φ' b=some (x,0)→w.heap[x]? = some ob→At B φ' w b ao)∧∀w:World,s.run P w = .ok (k.val w.heap.size) (w.alloc ob)
theorem S2 {c:List AV} {e:Nat} {cs:Array Value} (h:VRl φ c cs.toList):∀(B:Bas) (φ':Phi) (w:World) b x,φ.le φ'→φ' b=some (x,0)→w.heap[x]? = some (.cells cs e (0,0))→At B φ' w b (.row c e):=fun _ _ _ _ x hle hx hw=>⟨x,0,cs,hx,hw,h.mono hle⟩
theorem Y2y {t len:Nat} {ps:List (Nat × AV)} {qs:Array (Nat × Value)} {k:NK} {ao:AO} (hb:X5 P t len ps=some (k,ao)) (hp:NR φ ps qs.toList):Yz P φ (Instr.buildSlice t len qs) k ao:=by
 unfold X5 at hb;split at hb
 ·rename_i e hu;split at hb
  ·rename_i size hs;split at hb
   ·rename_i z hz
    cases hc:(Nat.beq (cellsOf z).length size&&!Et z&&Nat.blt 0 size&&Nat.ble (len*size) 1000000) with
    |false=>rw[hc] at hb;cases hb
    |true =>
     rw[hc,cond_true] at hb;simp only[Bool.and_eq_true,Bool.not_eq_true'] at hc;obtain⟨⟨⟨c1,c2⟩,c3⟩,c4⟩:=hc;have c1':=Nat.eq_of_beq_eq_true c1
     have c3':0 < size:=by simpa [Nat.blt_eq] using c3
     have c4':=Dx c4;split at hb
     ·rename_i c hf;cases hb;obtain⟨zv,h1,h3⟩:=K5 (φ:=φ) hz;have hzr:=Y6 (h3.cells c2) (by omega) (len*size);obtain⟨rs,f1,f2⟩:=Tw _ ps qs.toList _ ((Array.range (len*size)).map fun i=>zv.cells[i % zv.cells.size]!) c hf hp hzr;refine⟨rfl,_,S2 f2,fun w=>?_⟩;show _=Result.ok (Value.slice (some ⟨w.heap.size,0,none⟩) len len) _;by_cases h0:len*size=0
      ·have hl0:len=0:=by rcases Nat.mul_eq_zero.1 h0 with q|q<;>omega
       subst hl0
       have hr0:∀f:Nat→Value,(Array.range (0*size)).map f = #[]:=fun f=>by rw[Nat.zero_mul];simp
       rw[hr0] at f1;simp only[Instr.buildSlice,Sem.run_bind,run_underlying hu,Result.andThen_ok,C4 hs,Sem.run_pure];rw[if_neg (by omega),if_pos h0];simp only[Sem.run_pure,Result.andThen_ok,Sem.run_bind,hr0,f1,K9]
      ·simp only[Instr.buildSlice,Sem.run_bind,run_underlying hu,Result.andThen_ok,C4 hs,if_neg h0,Sem.run_pure];rw[if_neg (by omega)];simp only[Sem.run_pure,Result.andThen_ok,Sem.run_bind,h1,f1,K9]
     ·cases hb
   ·cases hb
  ·cases hb
 ·cases hb
theorem X41 {t:Nat} {l c:AV} {lv cv:Value} {k:NK} {ao:AO} (hb:Wi P t l c=some (k,ao)) (hl:VR φ l lv) (hc:VR φ c cv):Yz P φ (Instr.makeSlice t lv cv) k ao:=by
 unfold Wi at hb;split at hb
 ·rename_i e hu;split at hb
  ·rename_i size hs;split at hb
   ·rename_i z hz;split at hb
    ·rename_i by_ hby;split at hb
     ·rename_i n hn;split at hb
      ·rename_i m hm
       cases hcc:(Nat.beq (cellsOf z).length size&&!Et z&&Nat.blt 0 size&&Nat.ble n m&&Nat.ble m 1000000&&Nat.ble (by_*m) 1000000000) with
       |false=>rw[hcc] at hb;cases hb
       |true =>
        rw[hcc,cond_true] at hb;simp only[Bool.and_eq_true,Bool.not_eq_true'] at hcc;obtain⟨⟨⟨⟨⟨c1,c2⟩,c3⟩,c4⟩,c5⟩,c6⟩:=hcc;have c1':=Nat.eq_of_beq_eq_true c1
        have c3':0 < size:=by simpa [Nat.blt_eq] using c3
        have c4':=Dx c4;have c5':=Dx c5;have c6':=Dx c6;cases hb;obtain⟨zv,h1,h3⟩:=K5 (φ:=φ) hz;have hzr:=Y6 (h3.cells c2) (by omega) (m*size);obtain⟨kl,rfl⟩:=N7 hn hl;obtain⟨kc,rfl⟩:=N7 hm hc;obtain⟨i,hi,hib,hisz⟩:=U7 hby hs
        have ht:∀w:World,(typeInfo e).run P w = .ok i w:=fun w=>by simp[typeInfo,hi,go_sem]
        refine⟨rfl,_,S2 hzr,fun w=>?_⟩;show _=Result.ok (Value.slice (some ⟨w.heap.size,0,none⟩) n m) _;have w1:=Zd c5';have w2:=Zd (Nat.le_trans c4' c5')
        have g1:¬((i.bytes:Int)*(m:Int) > 2 ^ 48):=by
         rw[hib];have h5:((by_*m:Nat):Int)≤((1000000000:Nat):Int):=Int.ofNat_le.2 c6';rw[Int.natCast_mul] at h5;have h6:(2:Int) ^ 48=281474976710656:=rfl;omega
        have g2:¬((m:Int) < 0):=by omega
        have g3:¬((n:Int) < 0):=by omega
        have g4:¬((n:Int) > (m:Int)):=by omega
        have cnd:((decide ((m:Int) < 0)||decide ((i.bytes:Int)*(m:Int) > 2 ^ 48))||decide ((n:Int) < 0)||decide ((n:Int) > (m:Int)))=false:=by
         rw[decide_eq_false g1,decide_eq_false g2,decide_eq_false g3,decide_eq_false g4];rfl
        by_cases q:m*size=0
        ·have hr0:∀f:Nat→Value,(Array.range (m*size)).map f = #[]:=fun f=>by rw[q];simp
         simp only[Instr.makeSlice,asInt,asIntOf,Sem.run_bind,run_underlying hu,Result.andThen_ok,Sem.run_pure,ht,w1,w2];rw[if_neg (by rw[cnd];simp)];simp only[Sem.run_bind,run_askRoom,Int.toNat_natCast,C4 hs,Result.andThen_ok,if_pos q,Sem.run_pure,hr0,K9]
        ·simp only[Instr.makeSlice,asInt,asIntOf,Sem.run_bind,run_underlying hu,Result.andThen_ok,Sem.run_pure,ht,w1,w2];rw[if_neg (by rw[cnd];simp)];simp only[Sem.run_bind,run_askRoom,Int.toNat_natCast,C4 hs,Result.andThen_ok,if_neg q,h1,Sem.run_pure,K9]
      ·cases hb
     ·cases hb
    ·cases hb
   ·cases hb
  ·cases hb
 ·cases hb
theorem X4p (hev:EVR φ ev ρ) {o:Oper} {k:NK} {ao:AO} (h:S7 P ev o=some (k,ao)) :
  (On ao=true)∧∃ob,(∀(B:Bas) (φ':Phi) (w:World) b x,φ.le φ'→φ' b=some (x,0)→w.heap[x]? = some ob→At B φ' w b ao)∧∀w:World,(execOp ρ o).run P w = .ok (.value (k.val w.heap.size)) (w.alloc ob):=by
 have fin:∀{s:Sem Value},execOp ρ o=(do pure (.value (←s)):Sem Next)→Yz P φ s k ao→(On ao=true)∧∃ob,(∀(B:Bas) (φ':Phi) (w:World) b x,φ.le φ'→φ' b=some (x,0)→w.heap[x]? = some ob→At B φ' w b ao)∧∀w:World,(execOp ρ o).run P w = .ok (.value (k.val w.heap.size)) (w.alloc ob):=by
  rintro s he ⟨h0,ob,h1,h2⟩;exact⟨h0,ob,h1,fun w=>by rw[he];exact X16 (h2 w)⟩
 obtain⟨dst,op,type,pos,after,guard⟩:=o;cases op<;>simp only[S7,reduceCtorEq] at h
 case alloc t =>
  split at h
  ·rename_i z hz
   cases hd:Et z with
   |true=>rw[hd] at h;cases h
   |false =>
    rw[hd,cond_false] at h;cases h;obtain⟨zv,h1,h2⟩:=K5 (φ:=φ) hz;refine fin (s:=Instr.alloc t true (.tuple #[])) rfl ⟨rfl,_,S2 (h2.cells hd),fun w=>?_⟩;simp only[Instr.alloc,Sem.run_bind,h1,Result.andThen_ok,newVar,K9,Sem.run_pure];rfl
  ·cases h
 case box t x =>
  split at h
  ·rename_i z hz
   cases hd:Et z with
   |true=>rw[hd] at h;cases h
   |false =>
    rw[hd,cond_false] at h;cases h;refine fin (s:=Instr.box t (ρ x)) rfl ⟨rfl,_,S2 ((hev _ _ hz).cells hd),fun w=>?_⟩;simp only[Instr.box,Sem.run_bind,Result.andThen_ok,newVar,K9,Sem.run_pure];rfl
  ·cases h
 case buildSlice t n parts =>
  split at h
  ·rename_i ps hps;have hp:=Xd hev hps;refine fin (s:=Instr.buildSlice t n (parts.map fun (i,x)=>(i,ρ x))) ?_ (Y2y h (by simpa using hp));simp only[execOp]
  ·cases h
 case makeMap t r =>
  split at h
  ·cases h;refine⟨rfl,.map #[] 0,fun B φ' w b x _ hx hw=>⟨x,0,#[],hx,hw,by simp[MR]⟩,fun w=>?_⟩;simp[execOp,Instr.makeMap,go_sem];rfl
  ·cases h
 case makeSlice t l c =>
  split at h
  ·rename_i a1 ha;split at h
   ·rename_i b1 hb;exact fin (s:=Instr.makeSlice t (ρ l) (ρ c)) rfl (X41 h (hev _ _ ha) (hev _ _ hb))
   ·cases h
  ·cases h
end
section
variable (P : Program)
noncomputable def Mt (t:Nat) (a:AV) (h:AH):Option AV:=match a with
 |.ptr b off=>match A3 b h with
  |some (.row c _)=>match Hz P t with
   |some true=>match tsz P t with
    |some n=>bif Nat.ble (off+n) c.length then some (.agg ((c.drop off).take n)) else none
    |none=>none
   |some false=>c[off]?
   |none=>none
  |_=>none
 |.fp (.agg l)=>match Hz P t with
  |some true=>match tsz P t with
   |some n=>bif Nat.beq n l.length then some (.agg l) else none
   |none=>none
  |some false=>match l with
   |a::_=>some a
   |[]=>none
  |none=>none
 |.fp a=>match Hz P t with
  |some false=>bif one a then some a else none
  |_=>none
 |_=>none
noncomputable def U9 (t:Nat) (a v:AV) (h:AH):Option AH:=match a with
 |.ptr b off=>match tsz P t with
  |some n=>match A3 b h with
   |some (.row c e)=>bif Nat.beq (cellsOf v).length n&&!Et v&&Nat.ble (off+n) c.length&&ones (cellsOf v) then some (B1 b (.row (c.take off++cellsOf v++c.drop (off+n)) e) h) else none
   |_=>none
  |none=>none
 |_=>none
end
section
variable {P : Program} {φ : Phi} {B : Bas} {w : World} {h : AH}
theorem Rel.rowAt (r:Rel B φ h w) {b:Nat} {c:List AV} {e:Nat} (hb:A3 b h=some (.row c e)) {x κ:Nat} (hx:φ b=some (x,κ)):∃vs,w.heap[x]? = some (.cells vs e (0,0))∧VRl φ c vs.toList:=by
 obtain⟨x',κ',vs,h1,h2,h3⟩:=r.obj b _ hb;rw[hx] at h1;cases h1;exact⟨vs,h2,h3⟩
theorem Ki {f:Nat→Option Obj} {b o:Nat} {us:List Value} (hf:∀b o,f b=some o→w.heap[b]? = some o) (k:LieAt f b o us) {j:Nat} {u:Value} (hj:us[j]? = some u):w.cell? ⟨b,o+j,none⟩=some u:=by
 obtain⟨cs,e,fr,h1,h2⟩:=k;have:=hf _ _ h1;have h3:=(h2 j u hj).1;simp[World.cell?,this,h3]
theorem Q3g {t:Nat} {a r:AV} {x:Value} (hl:Mt P t a h=some r) (hx:VR φ a x) (hr:Rel B φ h w):∃v,(Instr.loadAt t x).run P w = .ok v w∧VR φ r v:=by
 have agg:∀{b o n:Nat} {us:List Value},Hz P t=some true→tsz P t=some n→us.length=n→(∀j v,us[j]? = some v→w.cell? ⟨b,o+j,none⟩=some v)→(Instr.loadAt t (.pointer (some ⟨b,o,none⟩))).run P w = .ok (.agg us.toArray) w:=by
  intro b o n us ha hn hl hc;have:=run_loadCells_list (P:=P) w ⟨b,o,none⟩ us (fun j v hj=>by rw[Fb];exact hc j v hj);rw[hl] at this;simp only[Instr.loadAt,Instr.sureAddr,Sem.run_bind,Sem.run_pure,Result.andThen_ok,loadVar,Kw ha,if_true,C4 hn,this]
 have sca:∀{b o:Nat} {v:Value},Hz P t=some false→w.cell? ⟨b,o,none⟩=some v→(Instr.loadAt t (.pointer (some ⟨b,o,none⟩))).run P w = .ok v w:=by
  intro b o v ha hc;simp[Instr.loadAt,Instr.sureAddr,loadVar,Kw ha,hc,go_sem]
 unfold Mt at hl;split at hl
 ·rename_i b off;simp only[VR] at hx;obtain⟨y,κ,hφ,rfl⟩:=hx;split at hl
  ·rename_i c e hb;obtain⟨vs,e1,e2⟩:=hr.rowAt hb hφ
   have cell:∀j v,vs.toList[j]? = some v→w.cell? ⟨y,j,none⟩=some v:=fun j v hj=>by simp[World.cell?,e1];simpa using hj
   split at hl
   ·rename_i ha;split at hl
    ·rename_i n hn
     cases hc:Nat.ble (off+n) c.length with
     |false=>rw[hc] at hl;cases hl
     |true =>
      rw[hc,cond_true] at hl;cases hl;have hle:=Dx hc;have hlen:=e2.length;refine⟨_,agg ha hn (us:=(vs.toList.drop off).take n) (by simp at hlen ⊢;omega) (fun j v hj=>cell _ _ ?_),by simp only[VR];exact⟨_,(e2.drop off).take n,rfl⟩⟩;obtain⟨hlt,_⟩:=List.getElem?_eq_some_iff.1 hj;rw[List.getElem?_take_of_lt (by simp at hlt;omega),List.getElem?_drop] at hj;exact hj
    ·cases hl
   ·rename_i ha;obtain⟨v,h1,h2⟩:=e2.get hl;exact⟨v,sca ha (cell _ _ h1),h2⟩
   ·cases hl
  ·cases hl
 ·rename_i l;simp only[VR] at hx;obtain⟨b,o,u,rfl,⟨vs,hvs,rfl⟩,hlie⟩:=hx
  have hcs:(Value.agg vs.toArray).cells.toList=vs:=by simp[Value.cells]
  rw[hcs] at hlie;split at hl
  ·rename_i ha;split at hl
   ·rename_i n hn;obtain⟨h3,h4⟩:=Eo (f:=none) hl;cases h4;have hlen:=hvs.length;refine⟨_,agg ha hn (us:=vs) (by rw[hlen,Nat.eq_of_beq_eq_true h3]) (fun j v hj=>Ki hr.fro hlie hj),by simp only[VR];exact⟨vs,hvs.mono (Phi.le_fz φ),rfl⟩⟩
   ·cases hl
  ·rename_i ha;split at hl
   ·rename_i a l';cases hl;obtain⟨v,vs',rfl,h1,_⟩:=hvs.cons_inv;exact⟨v,sca ha (by have:=Ki hr.fro hlie (j:=0) rfl;simpa using this),h1.mono (Phi.le_fz φ)⟩
   ·cases hl
  ·cases hl
 ·rename_i a hna;simp only[VR] at hx;obtain⟨b,o,u,rfl,hu,hlie⟩:=hx;split at hl
  ·rename_i ha;obtain⟨h3,h4⟩:=Eo (f:=none) hl;cases h4;have h1:=(hu.one h3).2;rw[h1] at hlie;exact⟨u,sca ha (by have:=Ki hr.fro hlie (j:=0) rfl;simpa using this),hu.mono (Phi.le_fz φ)⟩
  ·cases hl
 ·cases hl
theorem X0v {t:Nat} {a v:AV} {av vv:Value} {h':AH} (hs:U9 P t a v h=some h') (ha:VR φ a av) (hv:VR φ v vv) (r:Rel B φ h w):∃w',(Instr.storeAt t av vv).run P w = .ok () w'∧Rel B φ h' w':=by
 unfold U9 at hs;split at hs
 ·rename_i b off;simp only[VR] at ha;obtain⟨x,κ,hφ,rfl⟩:=ha;split at hs
  ·rename_i n hn;split at hs
   ·rename_i c e hb;obtain⟨hc,h4⟩:=Eo (f:=none) hs;cases h4;simp only[Bool.and_eq_true,Bool.not_eq_true'] at hc;obtain⟨⟨⟨c1,c2⟩,c3⟩,c4⟩:=hc;have hcells:=hv.cells c2
    have hlen:vv.cells.size=n:=by have:=hcells.length;simp only[Array.length_toList] at this;rw[this];exact Nat.eq_of_beq_eq_true c1
    obtain⟨vs,e1,e2⟩:=r.rowAt hb hφ;have hlv:=e2.length;have hln:=Nat.eq_of_beq_eq_true c1;have c3':=Dx c3;simp only[Array.length_toList] at hlv;have hrun:=run_storeCells_at P x off e vv.cells.toList 0 vs w e1 (by simp;omega) (hcells.ones c4)
    have hst:(Instr.storeAt t (.pointer (some ⟨x,off,none⟩)) vv).run P w=(storeCells ⟨x,off,none⟩ vv.cells.toList).run P w:=by
     simp only[Instr.storeAt,Instr.sureAddr,Sem.run_bind,Sem.run_pure,Result.andThen_ok,storeVar,C4 hn];rw[if_neg (by simp[hlen])]
    refine⟨_,hst.trans hrun,r.set hb rfl rfl hφ rfl rfl rfl (by simp) (fun j hj=>setRow_other w x j _ hj) ⟨x,κ,_,hφ,setRow_heap w x vs _ e _ e1,?_⟩⟩;simp only[List.toList_toArray,Nat.add_zero];rw[←hln,←hcells.length];exact((e2.take off).append hcells).append (e2.drop _)
   ·cases hs
  ·cases hs
 ·cases hs
end
theorem X2b {P:Program} (w:World) {base:Nat} {t tx ty e:TypeId} {i:TypeInfo} {z:Value} (ht:P.underlying t=some (.slice e)) (hi:P.info? e=some i) (hz:i.zero=some z) (hzs:z.cells.size=i.size) (hsz:0 < i.size)
  {v:Value} {n:Nat} {xs:List Value} (hown:w.ownsRow base e i.size v n xs) {x:Value} {m:Nat} {news:List Value} (hs:Src P i.size tx x m news w) (h63:n+m≤9223372036854775807) (hbytes:(n+m)*i.bytes≤140737488355328) (hbase:base≤w.heap.size) :
  ∃v' w',(Builtin.append_ #[t,tx] ty #[v,x]).run P w = .ok v' w'∧w'.ownsRow base e i.size v' (n+m) (xs++news)∧w.grownBy w' v.ownBlock∧(v'.ownBlock=v.ownBlock∨v'.ownBlock=some w.heap.size):=by
 have hl:=hs.newsLen
 have hlen:(xs++news).length=(n+m)*i.size:=by rw[List.length_append,hown.1,hl,Nat.add_mul]
 have grown:∀(old:Nat),old < n+m→∀(row:Option Nat),
   (w.drew.alloc (.cells ((xs++news).toArray++Builtin.zeroCells z.cells (grownCap w (n+m) old e-(n+m))) e)).ownsRow base e i.size
    (.slice (some ⟨w.heap.size,0,none⟩) (n+m) (grownCap w (n+m) old e)) (n+m) (xs++news) ∧
   w.grownBy (w.drew.alloc (.cells ((xs++news).toArray++Builtin.zeroCells z.cells (grownCap w (n+m) old e-(n+m))) e)) row:=by
  intro old ho row;have hge:=grownCap_ge w (n+m) old e;have hcm:grownCap w (n+m) old e≤maxLen:=grownCap_le_maxLen w (n+m) old e (by unfold maxLen;omega);refine⟨⟨hlen,.inr ⟨w.heap.size,_,_,rfl,hbase,heap_alloc_new w.drew _,hge,hcm,?_,?_⟩⟩,⟨rfl,rfl,rfl,by simp,fun k hk _=>heap_alloc_old w.drew _ hk⟩⟩
  ·simp only[Array.size_append,List.size_toArray,size_zeroCells,hzs,hlen,←Nat.add_mul];congr 1;omega
  ·simp only[Array.toList_append];rw[←hlen];exact List.take_left
 rcases hown.2 with⟨rfl,rfl⟩|⟨g,cap,cur,rfl,hbg,hg,hnc,hcm,hcs,htake⟩
 ·have hx:xs=[]:=List.eq_nil_of_length_eq_zero (by simpa using hown.1);subst hx;by_cases hm:m=0
  ·subst hm;have hn:news=[]:=List.eq_nil_of_length_eq_zero (by simpa using hl);subst hn;refine⟨.slice none 0 0,w,?_,World.ownsRow_nil w base e i.size,⟨rfl,rfl,rfl,Nat.le_refl _,fun _ _ _=>rfl⟩,Or.inl rfl⟩;rcases hs.kind with⟨e',hk⟩|hk<;>simp[Builtin.append_,run_underlying ht,run_underlying hk,sizeOf,typeInfo,hi,hs.len,hs.cells,storeCells]
  ·have hold:(Builtin.firstCells i.size 0 (.slice none 0 0)).run P w.drew = .ok ([]:List Value).toArray w.drew:=run_firstCells_none (P:=P) w.drew i.size 0 0 0;have hr:=run_append_grow_src (P:=P) w t tx ty e i z ht hi hz none 0 0 [] hold x m news hs (by omega) (by omega) (growslice_fits (by omega) hbytes);have hgr:=grown 0 (by omega) (Value.ownBlock (.slice none 0 0));exact⟨_,_,hr,hgr.1,hgr.2,Or.inr rfl⟩
 ·by_cases hroom:n+m≤cap
  ·have hfit:n*i.size+news.length≤cur.size:=by rw[hl,hcs,←Nat.add_mul];exact Nat.mul_le_mul_right _ hroom
   have hst:=run_storeCells_at P g (n*i.size) e news 0 cur w hg (by simpa using hfit) hs.one
   have hr:(Builtin.append_ #[t,tx] ty #[.slice (some ⟨g,0,none⟩) n cap,x]).run P w = .ok (.slice (some ⟨g,0,none⟩) (n+m) cap) (w.setRow g (cur.toList.take (n*i.size)++news++cur.toList.drop (n*i.size+news.length)).toArray):=by
    simp only[Nat.add_zero] at hst;rcases hs.kind with⟨e',hk⟩|hk<;>simp[Builtin.append_,run_underlying ht,run_underlying hk,sizeOf,typeInfo,hi,hs.len,hroom,hs.cells,Addr.add_lit,hst]
   refine⟨_,_,hr,⟨hlen,.inr ⟨g,cap,_,rfl,hbg,setRow_heap w g cur _ e _ hg,hroom,hcm,?_,?_⟩⟩,⟨rfl,rfl,rfl,by simp,fun k _ hk=>setRow_other w g k _ (fun e=>hk (by simp[Value.ownBlock,e]))⟩,Or.inl rfl⟩
   ·simp only[List.size_toArray,List.length_append,List.length_take,List.length_drop,Array.length_toList];omega
   ·rw[htake,←hlen];exact List.take_left
  ·have Bk:∀j u,xs[j]? = some u→w.drew.cell? ((⟨g,0,none⟩:Addr).add j)=some u:=hown.cells (g:=g) rfl;have hold:=run_firstCells_some (P:=P) w.drew i.size n ⟨g,0,none⟩ n cap xs hown.1 Bk;have hr:=run_append_grow_src (P:=P) w t tx ty e i z ht hi hz (some ⟨g,0,none⟩) n cap xs hold x m news hs (by omega) (by omega) (growslice_fits (by omega) hbytes);have hgr:=grown cap (by omega) (Value.ownBlock (.slice (some ⟨g,0,none⟩) n cap));exact⟨_,_,hr,hgr.1,hgr.2,Or.inr rfl⟩
noncomputable def Ge (sz:Nat):Nat→List AV→List AV
 |0,_=>[]
 |m+1,c=>(bif Nat.beq sz 1 then (match c with|a::_=>a | [] => .tup []) else .agg (c.take sz))::Ge sz m (c.drop sz)
noncomputable def Vf (P:Program) (sz tx:Nat) (x:AV) (h:AH):Option (Nat × List AV):=match x with
 |.sl b 0 n _ _=>match Fj P tx with
  |some _=>match A3 b h with
   |some (.row c _)=>bif Nat.beq (n*sz) c.length&&frzl c&&ones c&&Nat.blt 0 sz then some (n,Ge sz n c) else none
   |_=>none
  |none=>none
 |.nils=>match Fj P tx with
  |some _=>some (0,[])
  |none=>none
 |.row s n g=>match Fj P tx with
  |some _=>bif Nat.beq s sz then some (n,(List.range n).map g) else none
  |none=>none
 |.own b=>match Fj P tx with
  |some _=>match A3 b h with
   |some (.grow es _ s)=>bif Nat.beq s sz then some (es.length,es) else none
   |_=>none
  |none=>none
 |.str l=>bif Nq P tx&&Nat.beq sz 1 then some (l.length,l.map fun c => .int .u8 (c.toNat:Int)) else none
 |_=>none
section
variable {P : Program} {φ : Phi} {B : Bas} {w : World} {h : AH}
theorem Hs {vs:List Value} {sz:Nat} (h:∀u∈vs,u.cells.size=sz):(vs.flatMap fun u=>u.cells.toList).length=vs.length*sz:=by
 induction vs with
 |nil=>simp
 |cons v r ih =>
  rw[List.flatMap_cons,List.length_append,ih (fun u hu=>h u (by simp[hu])),List.length_cons,Nat.add_mul,Nat.one_mul,Array.length_toList,h v (by simp)];omega
theorem VRl.of_range {f:Nat→AV} {u:Nat→Value} {n:Nat} (h:∀i,i < n→VR φ (f i) (u i)):VRl φ ((List.range n).map f) ((List.range n).map u) :=
 VRl.of_map fun i hi=>h i (by simpa using hi)
theorem U8 {α:Type} {l:List α} (h:0 < l.length):∃a r,l=a::r:=by cases l with|nil=>simp at h|cons a r=>exact⟨a,r,rfl⟩
theorem Ue {sz:Nat} (hsz:0 < sz):∀(m:Nat) (c:List AV) (us:List Value),VRl φ c us→us.length=m*sz→ones c=true→(∀u∈us,u.oneCell'=true)→∃vs,VRl φ (Ge sz m c) vs∧vs.length=m∧(∀u∈vs,u.cells.size=sz)∧(vs.flatMap fun u=>u.cells.toList)=us
 |0,c,us,hv,hl,ho,h1=>by
  have:us=[]:=List.eq_nil_of_length_eq_zero (by simpa using hl);subst this;exact⟨[],.nil,rfl,by simp,rfl⟩
 |m+1,c,us,hv,hl,ho,h1=>by
  have hlen:=hv.length
  have hms:(m+1)*sz=m*sz+sz:=by rw[Nat.add_mul,Nat.one_mul]
  have ho':ones (c.drop sz)=true:=by
   clear hv hl hlen
   induction c generalizing sz with
   |nil=>simp[ones]
   |cons a r ih =>
    cases sz with
    |zero=>exact ho
    | succ s => simp only [List.drop_succ_cons]; simp only [ones, Bool.and_eq_true] at ho
                cases s with
                |zero=>simpa using ho.2
                |succ s=>exact ih (by omega) ho.2 (by rw[Nat.add_mul,Nat.one_mul])
  obtain⟨vs,k1,k2,k3,k4⟩:=Ue hsz m (c.drop sz) (us.drop sz) (hv.drop sz) (by rw[List.length_drop];omega) ho' (fun u hu=>h1 u (List.mem_of_mem_drop hu));by_cases hs1:sz=1
  ·subst hs1;obtain⟨v,r,rfl⟩:=U8 (l:=us) (by omega);obtain⟨a,c',rfl⟩:=U8 (l:=c) (by simp only[List.length_cons] at hlen;omega);obtain⟨v',r',e,q1,q2⟩:=hv.cons_inv;cases e;simp only[ones,Bool.and_eq_true] at ho;have hc:=(q1.one ho.1).2;refine⟨v::vs,?_,by simp[k2],?_,?_⟩
   ·show VRl φ (a::Ge 1 m c') (v::vs);exact .cons q1 k1
   ·intro u hu;rcases List.mem_cons.1 hu with rfl|hu
    ·rw[hc];rfl
    ·exact k3 u hu
   ·rw[List.flatMap_cons,k4,hc];simp
  ·refine⟨.agg (us.take sz).toArray::vs,?_,by simp[k2],?_,?_⟩
   ·show VRl φ ((bif Nat.beq sz 1 then _ else .agg (c.take sz))::Ge sz m (c.drop sz)) _;rw[I8 hs1,cond_false];exact .cons (by simp only[VR];exact⟨_,hv.take sz,rfl⟩) k1
   ·intro u hu;rcases List.mem_cons.1 hu with rfl|hu
    ·simp[Value.cells];omega
    ·exact k3 u hu
   ·rw[List.flatMap_cons,k4];simp[Value.cells]
end
theorem Rel.congr {B:Bas} {φ:Phi} {h h':AH} {w:World} (r:Rel B φ h w) (e:∀b,A3 b h'=A3 b h):Rel B φ h' w :=
 ⟨r.below,r.fro,fun b o k=>r.obj b o (by rw[←e];exact k),fun b b' o o' k i j=>r.sep b b' o o' k (by rw[←e];exact i) (by rw[←e];exact j),fun b o k i=>r.gf b o k (by rw[←e];exact i)⟩
mutual
noncomputable def Hl (n:Nat):AV→Bool
 |.own b => !Nat.beq b n
 |.op b _ => !Nat.beq b n
 |.fn _ first cap=>noownl n first&&noownl n cap
 |.ifc _ a=>Hl n a
 |.agg l=>noownl n l
 |.tup l=>noownl n l
 |.cond _ a=>Hl n a
 |_=>true
noncomputable def noownl (n:Nat):List AV→Bool
 |[]=>true
 |a::l=>Hl n a&&noownl n l
end
structure Turn (φ φ':Phi) (b:Nat):Prop where
 m:∀c,φ' c=φ c
 s:∀c,c≠b→φ'.s c=φ.s c
 f:∀k o,φ.f k=some o→φ'.f k=some o
mutual
theorem VR.turn {n:Nat}:∀{a:AV} {φ φ':Phi} {v:Value},Turn φ φ' n→VR φ a v→Hl n a=true→VR φ' a v
 |.bool _,_,_,_,_,k,_=>k
 |.int _ _,_,_,_,_,k,_=>k
 |.str _,_,_,_,_,k,_=>k
 |.ptr _ _,_,_,_,t,k,h=>by simp only[VR] at k ⊢;rw[t.m];exact k
 |.nilp,_,_,_,_,k,_=>k
 |.sl _ _ _ _ _,_,_,_,t,k,h=>by simp only[VR] at k ⊢;rw[t.m];exact k
 |.nils,_,_,_,_,k,_=>k
 |.sle,_,_,_,_,k,_=>k
 |.map _,_,_,_,t,k,h=>by simp only[VR] at k ⊢;rw[t.m];exact k
 |.nilm,_,_,_,_,k,_=>k
 |.fn _ _ _,_,_,_,t,k,h=>by
  simp only[VR] at k ⊢;simp only[Hl,Bool.and_eq_true] at h;obtain⟨a,b,e1,e2,r⟩:=k;exact⟨a,b,VRl.turn t e1 h.1,VRl.turn t e2 h.2,r⟩
 |.nilf,_,_,_,_,k,_=>k
 |.ifc _ _,_,_,_,t,k,h=>by
  simp only[VR] at k ⊢;simp only[Hl] at h;obtain⟨u,e,r⟩:=k;exact⟨u,VR.turn t e h,r⟩
 |.nili,_,_,_,_,k,_=>k
 |.agg _,_,_,_,t,k,h=>by
  simp only[VR] at k ⊢;simp only[Hl] at h;obtain⟨u,e,r⟩:=k;exact⟨u,VRl.turn t e h,r⟩
 |.tup _,_,_,_,t,k,h=>by
  simp only[VR] at k ⊢;simp only[Hl] at h;obtain⟨u,e,r⟩:=k;exact⟨u,VRl.turn t e h,r⟩
 |.raw _,_,_,_,_,k,_=>k
 |.row _ _ _,_,_,_,t,k,_=>by
  simp only[VR] at k ⊢;obtain⟨u,k1,k2⟩:=k
  exact⟨u,fun i hi=>(k1 i hi).mono (Dd t.f),by
   rcases k2 with k2|⟨b,o,c,rfl,k0,k2⟩
   ·exact .inl k2
   ·exact .inr ⟨b,o,c,rfl,k0,fun i hi=>⟨(k2 i hi).1,by obtain⟨cs,e,fr,q1,q2⟩:=(k2 i hi).2;exact⟨cs,e,fr,t.f _ _ q1,q2⟩⟩⟩⟩
 |.fp _,_,_,_,t,k,_=>by
  simp only[VR] at k ⊢;obtain⟨b,o,u,e,k1,cs,e',fr,q1,q2⟩:=k;exact⟨b,o,u,e,k1.mono (Dd t.f),cs,e',fr,t.f _ _ q1,q2⟩
 |.own c,_,_,_,t,k,h=>by
  simp only[VR] at k ⊢;simp only[Hl,Bool.not_eq_true'] at h;rw[t.s c (by rintro rfl;rw[Nat.beq_refl] at h;cases h)];exact k
 |.op c _,_,_,_,t,k,h=>by
  simp only[VR] at k ⊢;simp only[Hl,Bool.not_eq_true'] at h;rw[t.s c (by rintro rfl;rw[Nat.beq_refl] at h;cases h)];exact k
 |.clo _,_,_,_,t,k,_=>by
  simp only[VR] at k ⊢;exact⟨k.1.mono (Dd t.f),k.2⟩
 |.smap _ _,_,_,_,t,k,_=>by
  simp only[VR] at k ⊢;obtain⟨x,es,clk,m,e,e1,e2,e3⟩:=k;exact⟨x,es,clk,m,e,t.f _ _ e1,e2,fun s=>⟨fun u hu=>((e3 s).1 u hu).mono (Dd t.f),fun hu=>((e3 s).2 hu).mono (Dd t.f)⟩⟩
 |.cond _ _,_,_,_,t,k,h=>by
  simp only[VR] at k ⊢;simp only[Hl] at h;exact⟨fun q=>VR.turn t (k.1 q) h,k.2⟩
theorem VRl.turn {n:Nat}:∀{l:List AV} {φ φ':Phi} {vs:List Value},Turn φ φ' n→VRl φ l vs→noownl n l=true→VRl φ' l vs
 |[],_,_,_,_,k,_=>k
 |_::_,_,_,_,t,k,h=>by
  simp only[VRl] at k ⊢;simp only[noownl,Bool.and_eq_true] at h;obtain⟨v,vs',e,e1,e2⟩:=k;exact⟨v,vs',e,VR.turn t e1 h.1,VRl.turn t e2 h.2⟩
end
noncomputable def Bl:AV:=.cond false (.tup [])
theorem Lh {φ:Phi} {v:Value}:VR φ Bl v:=by
 unfold Bl VR;exact⟨fun e=>(by cases e),fun e=>(by cases e)⟩
noncomputable def H5 (b:Nat) (a:AV):AV:=bif Hl b a then a else Bl
theorem Vr {b:Nat} {a:AV} {φ φ':Phi} {v:Value} (t:Turn φ φ' b) (k:VR φ a v):VR φ' (H5 b a) v:=by
 unfold H5
 cases h:Hl b a with
 |true=>exact VR.turn t k h
 |false=>exact Lh
theorem Vq {b:Nat} {φ φ':Phi} (t:Turn φ φ' b):∀{l:List AV} {vs:List Value},VRl φ l vs→VRl φ' (l.map (H5 b)) vs
 |[],_,k=>by rw[k.nil_inv];exact .nil
 |a::l,_,k=>by
  obtain⟨v,vs',rfl,h1,h2⟩:=k.cons_inv;exact .cons (Vr t h1) (Vq t h2)
noncomputable def H4 (b:Nat):AO→AO
 |.row c e => .row (c.map (H5 b)) e
 |.gh es e sz o k=>bif Nat.beq k b then .grow es e sz else .gh es e sz o k
 |o=>o
noncomputable def E0 (b:Nat):AH→AH
 |[]=>[]
 |(k,o)::r=>(k,H4 b o)::E0 b r
theorem Jp (b c:Nat):∀h:AH,A3 c (E0 b h)=(A3 c h).map (H4 b)
 |[]=>rfl
 |(k,o)::r=>by
  simp only[E0,A3];rcases D2 k c with⟨e,_⟩|⟨e,_⟩<;>simp only[e,cond_true,cond_false,Option.map_some,Jp b c r]
theorem Rel.grown {B:Bas} {w w':World} {φ φ':Phi} {h:AH} (r:Rel B φ h w) {b:Nat} {es es':List AV} {e sz:Nat} {v v':Value} (hb:A3 b h=some (.grow es e sz)) (hv:φ.s b=some v) (t:Turn φ φ' b) (hv':φ'.s b=some v') (hf:φ'.f=φ.f)
  (hg:w.grownBy w' v.ownBlock) (hn:v'.ownBlock=v.ownBlock∨v'.ownBlock=some w.heap.size) (hlt:∀k,v'.ownBlock=some k→k < w'.heap.size) (ha:At B φ' w' b (.grow es' e sz)):Rel B φ' (B1 b (.grow es' e sz) (E0 b h)) w':=by
 have hi:∀k,v.ownBlock=some k→¬B.old k∧k < w.heap.size∧φ.f k=none:=fun k hk=>r.gf b _ k hb (by simp only[img,hv,Option.bind_some,hk]);have hbelow:Bel B w':=r.below.to hg.os hg.tape hg.output hg.size fun k hk=>hg.block k (r.below.lt hk) (fun q=>(hi k q.symm).1 hk)
 have hsep:∀c o k,c≠b→A3 c h=some o→img φ c o k→some k≠v.ownBlock:=by
  intro c o k hc e1 i1 q;exact hc (r.sep c b o _ k e1 hb i1 (by simp only[img,hv,Option.bind_some];exact q.symm))
 have himg:∀c o,c≠b→img φ' c (H4 b o)=img φ c o:=by
  intro c o hc;funext k
  cases o<;>simp only[H4,img]<;>first|(rename_i q;cases Nat.beq q b<;>simp only[cond_true,cond_false,img]<;>rw[t.s c hc];done)|rw[t.m,t.s c hc]|rw[t.m]|rw[t.s c hc]
 have h1:Rel B φ' (E0 b (Cr b h)) w':=by
  have getd:∀c o,A3 c (E0 b (Cr b h))=some o→∃o1,c≠b∧A3 c h=some o1∧o=H4 b o1:=by
   intro c o k;rw[Jp] at k;obtain⟨o1,k1,k2⟩:=Option.map_eq_some_iff.1 k;exact⟨o1,(D6 k1).1,(D6 k1).2,k2.symm⟩
  refine⟨hbelow,fun k o q=>?_,?_,?_,?_⟩
  ·rw[hf] at q;have:=r.fro k o q;rw[hg.block k (Dl this) (fun e=>by have:=(hi k e.symm).2.2;rw[this] at q;cases q)];exact this
  ·intro c o k;obtain⟨o1,hc,k1,rfl⟩:=getd c o k;have hk:∀j,img φ c o1 j→w'.heap[j]? = w.heap[j]? := fun j hj=>hg.block j (r.gf c o1 j k1 hj).2.1 (hsep c o1 j hc k1 hj);have ho:=r.obj c o1 k1
   cases o1 with
   |row c' e' =>
    obtain⟨x,κ,vs,q1,q2,q3⟩:=ho;exact⟨x,κ,vs,by rw[t.m];exact q1,(hk x (by simp[img,q1])).trans q2,Vq t q3⟩
   |grow es0 e0 sz0 =>
    obtain⟨u,us,q1,q2,q3,q4⟩:=ho;exact⟨u,us,by rw[t.s c hc];exact q1,Jm q2 (fun j hj=>hk j (by simp[img,q1,hj])),q3.mono (Dd t.f),q4⟩
   |map es0 clk =>
    obtain⟨x,κ,l,q1,q2,q3⟩:=ho;exact⟨x,κ,l,by rw[t.m];exact q1,(hk x (by simp[img,q1])).trans q2,q3.mono (Dd t.f)⟩
   |siter s p =>
    obtain⟨x,κ,q1,q2⟩:=ho;exact⟨x,κ,by rw[t.m];exact q1,(hk x (by simp[img,q1])).trans q2⟩
   |mm g ho' e0 sz0=>exact(show At B φ w c (.mm g ho' e0 sz0) from ho).imp (φ':=φ') ⟨t.m c,t.s c hc,t.f⟩ hk
   |gh es0 e0 sz0 o0 k0 =>
    obtain⟨u,us,hd,q1,q2,q3,q4,q5,q6⟩:=ho;have hown:=Jm q2 (fun j hj=>hk j (by simp[img,q1,hj]));simp only[H4]
    cases hq:Nat.beq k0 b with
    |true=>exact⟨u,us,by rw[t.s c hc];exact q1,hown,q3.mono (Dd t.f),q4⟩
    |false=>exact⟨u,us,hd,by rw[t.s c hc];exact q1,hown,q3.mono (Dd t.f),q4,by rw[t.s k0 (by rintro rfl;rw[Nat.beq_refl] at hq;cases hq)];exact q5,q6⟩
  ·intro c c' o o' k k1 k2 i1 i2;obtain⟨o1,hc1,e1,rfl⟩:=getd c o k1;obtain⟨o2,hc2,e2,rfl⟩:=getd c' o' k2;rw[himg c o1 hc1] at i1;rw[himg c' o2 hc2] at i2;exact r.sep c c' o1 o2 k e1 e2 i1 i2
  ·intro c o k k1 i1;obtain⟨o1,hc1,e1,rfl⟩:=getd c o k1;rw[himg c o1 hc1] at i1;have:=r.gf c o1 k e1 i1;exact⟨this.1,Nat.lt_of_lt_of_le this.2.1 hg.size,by rw[hf];exact this.2.2⟩
 have h2:Rel B φ' (B1 b (.grow es' e sz) (E0 b (Cr b h))) w':=by
  refine h1.add ha fun k hk=>?_;simp only[img,hv',Option.bind_some] at hk
  have hbk:¬B.old k∧φ'.f k=none:=by
   rcases hn with q|q
   ·have:=hi k (by rw[←q];exact hk);exact⟨this.1,by rw[hf];exact this.2.2⟩
   ·rw[hk] at q;cases q;refine⟨r.below.fresh,?_⟩;rw[hf]
    cases hx:φ.f w.heap.size with
    |none=>rfl
    |some x=>have:=Dl (r.fro _ _ hx);omega
  refine⟨hbk.1,hlt k hk,hbk.2,fun c o hc e1 i1=>?_⟩;rw[Jp,Hq hc] at e1;obtain⟨o1,k1,rfl⟩:=Option.map_eq_some_iff.1 e1;rw[himg c o1 hc] at i1;rcases hn with q|q
  ·exact hsep c o1 k hc k1 i1 (by rw[←q,hk])
  ·rw[hk] at q;cases q;have:=(r.gf c o1 _ k1 i1).2.1;omega
 refine h2.congr fun c=>?_;by_cases hc:c=b
 ·subst hc;rw[Iz,Iz]
 ·rw[Hp _ hc,Hp _ hc,Jp,Jp,Hq hc]
section
variable {P : Program} {φ : Phi} {B : Bas} {w : World} {h : AH}
theorem V0 {f:Nat→List Value} {sz:Nat}:∀(n:Nat),(∀i,i < n→(f i).length=sz)→((List.range n).flatMap f).length=n*sz∧∀j u,((List.range n).flatMap f)[j]? = some u→∃i k,i < n∧j=i*sz+k∧(f i)[k]? = some u
 |0,_=>by simp
 |n+1,h=>by
  obtain⟨h1,h2⟩:=V0 n (fun i hi=>h i (by omega));rw[List.range_succ,List.flatMap_append,List.flatMap_cons,List.flatMap_nil,List.append_nil];have hn:=h n (by omega);refine⟨by rw[List.length_append,h1,hn,Nat.add_mul,Nat.one_mul],fun j u hj=>?_⟩;by_cases hlt:j < n*sz
  ·rw[List.getElem?_append_left (by omega)] at hj;obtain⟨i,k,a,b,c⟩:=h2 j u hj;exact⟨i,k,by omega,b,c⟩
  ·rw[List.getElem?_append_right (by omega),h1] at hj;exact⟨n,j-n*sz,by omega,by omega,hj⟩
theorem flatMap_map {α β γ:Type} (f:α→β) (g:β→List γ) (l:List α):(l.map f).flatMap g=l.flatMap fun a=>g (f a):=by
 rw[List.flatMap_map]
theorem X0r (l:List UInt8):(l.map fun c=>Value.int .u8 (c.toNat:Int)).flatMap (fun u=>u.cells.toList)=l.map fun c=>Value.int .u8 (c.toNat:Int):=by
 induction l with
 |nil=>rfl
 |cons a r ih=>simp only[List.map_cons,List.flatMap_cons,ih];rfl
theorem Q68 {φ:Phi}:∀l:List UInt8,VRl φ (l.map fun c=>AV.int .u8 (c.toNat:Int)) (l.map fun c=>Value.int .u8 (c.toNat:Int))
 |[] => .nil
 |a::r => .cons Ja (Q68 r)
theorem X00 {sz tx m:Nat} {x:AV} {xv:Value} {news:List AV} (hs:Vf P sz tx x h=some (m,news)) (hx:VR φ x xv) (r:Rel B φ h w) :
  ∃us vs,Src P sz tx xv m us w∧VRl φ.fz news vs∧vs.length=m∧us=vs.flatMap (fun u=>u.cells.toList)∧∀u∈vs,u.cells.size=sz∧∀c∈u.cells.toList,c.oneCell'=true:=by
 unfold Vf at hs;split at hs
 ·rename_i b n c' op;simp only[VR] at hx;obtain⟨y,κ,hφ,hv⟩:=hx
  obtain⟨cc,hv⟩:∃cc,xv = .slice (some ⟨y,0,none⟩) n cc:=by
   rcases hv with⟨_,_,hv⟩|⟨_,hv⟩<;>exact⟨_,hv⟩
  subst hv;split at hs
  ·rename_i e he;split at hs
   ·rename_i c e' hb;obtain⟨h3,h4⟩:=Eo (f:=none) hs;cases h4;simp only[Bool.and_eq_true] at h3;obtain⟨⟨⟨c1,c2⟩,c3⟩,c4⟩:=h3;have c1':=Nat.eq_of_beq_eq_true c1
    have c4':0 < sz:=by simpa [Nat.blt_eq] using c4
    obtain⟨vs,e1,e2⟩:=r.rowAt hb hφ;have hl:=e2.length;have hones:=e2.ones c3;obtain⟨us,k1,k2,k3,k4⟩:=Ue c4' m c vs.toList (VRl.fz e2 c2) (by omega) c3 hones;refine⟨vs.toList,us,Src.ofSlice w (Ef he) ⟨y,0,none⟩ m cc vs.toList (by omega) (fun j u hj=>?_) hones,k1,k2,k4.symm,fun u hu=>⟨k3 u hu,fun c hc=>hones c (by rw[←k4];exact List.mem_flatMap.2 ⟨u,hu,hc⟩)⟩⟩;rw[Fb,Nat.zero_add];simp[World.cell?,e1];simpa using hj
   ·cases hs
  ·cases hs
 ·simp only[VR] at hx;subst hx;split at hs
  ·rename_i e he;cases hs;exact⟨[],[],Src.ofNil w (Ef he) 0,.nil,rfl,rfl,by simp⟩
  ·cases hs
 ·rename_i s n g;simp only[VR] at hx;obtain⟨u,hu,hr⟩:=hx;split at hs
  ·rename_i e he;obtain⟨h3,h4⟩:=Eo (f:=none) hs;cases h4;have:=Nat.eq_of_beq_eq_true h3;subst this;have hV:VRl φ.fz ((List.range m).map g) ((List.range m).map u):=VRl.of_range hu;rcases hr with⟨rfl,rfl|⟨a,c,rfl⟩⟩|⟨b,o,c,rfl,_,hl⟩
   ·exact⟨[],[],Src.ofNil w (Ef he) 0,.nil,rfl,rfl,by simp⟩
   ·exact⟨[],[],Src.ofSlice w (Ef he) a 0 c [] (by simp) (by simp) (by simp),.nil,rfl,rfl,by simp⟩
   ·have hsz:∀i,i < m→((u i).cells.toList).length=s:=fun i hi=>by rw[Array.length_toList];exact(hl i hi).1
    obtain⟨f1,f2⟩:=V0 (f:=fun i=>(u i).cells.toList) m hsz
    have hone:∀i,i < m→∀c∈(u i).cells.toList,c.oneCell'=true:=by
     intro i hi c hc;obtain⟨cs,e',fr,_,q⟩:=(hl i hi).2;obtain⟨k,hk⟩:=List.mem_iff_getElem?.1 hc;exact(q k c hk).2
    refine⟨_,_,Src.ofSlice w (Ef he) ⟨b,o,none⟩ m c ((List.range m).flatMap fun i=>(u i).cells.toList) f1 (fun j v hj=>?_) ?_,hV,by simp,by rw[List.flatMap_map],?_⟩
    ·obtain⟨i,k,hi,rfl,hk⟩:=f2 j v hj;rw[Fb,←Nat.add_assoc];exact Ki r.fro (hl i hi).2 hk
    ·intro v hv;obtain⟨i,hi,hc⟩:=List.mem_flatMap.1 hv;exact hone i (by simpa using hi) v hc
    ·intro v hv;obtain⟨i,hi,rfl⟩:=List.mem_map.1 hv;exact⟨(hl i (by simpa using hi)).1,hone i (by simpa using hi)⟩
  ·cases hs
 ·rename_i b;simp only[VR] at hx;obtain⟨hφ,_⟩:=hx;split at hs
  ·rename_i e he;split at hs
   ·rename_i es e' s hb;obtain⟨h3,h4⟩:=Eo (f:=none) hs;cases h4;have:=Nat.eq_of_beq_eq_true h3;subst this;obtain⟨v,vs,q1,q2,q3,q4⟩:=r.obj b _ hb;rw[hφ] at q1;cases q1;have hlen:=q3.length;refine⟨_,vs,?_,q3,hlen,rfl,q4⟩
    have hone:∀c∈(vs.flatMap fun u=>u.cells.toList),c.oneCell'=true:=by
     intro c hc;obtain⟨v,hv,hc⟩:=List.mem_flatMap.1 hc;exact(q4 v hv).2 c hc
    have hown:=q2;rcases q2.2 with⟨rfl,hn⟩|⟨g,cap,cur,rfl,_⟩
    ·rw[hn] at hlen ⊢;have:vs=[]:=List.eq_nil_of_length_eq_zero hlen;subst this;exact Src.ofNil w (Ef he) 0
    ·exact Src.ofSlice w (Ef he) ⟨g,0,none⟩ _ cap _ (by rw[Hs (fun u hu=>(q4 u hu).1),hlen]) (hown.cells rfl) hone
   ·cases hs
  ·cases hs
 ·rename_i l;simp only[VR] at hx;subst hx;obtain⟨h3,h4⟩:=Eo (f:=none) hs;cases h4;simp only[Bool.and_eq_true] at h3;have:=Nat.eq_of_beq_eq_true h3.2;subst this
  have hbc:byteCells (⟨l.toArray⟩:ByteArray)=l.map fun c=>Value.int .u8 (c.toNat:Int):=by simp[byteCells]
  have hS:=Src.ofString (P:=P) w (R3 h3.1) ⟨l.toArray⟩;rw[show(⟨l.toArray⟩:ByteArray).size=l.length by simp[ByteArray.size],hbc] at hS;refine⟨_,l.map fun c=>Value.int .u8 (c.toNat:Int),hS,?_,by simp,(X0r l).symm,?_⟩
  ·exact Q68 l
  ·intro u hu;obtain⟨c,_,rfl⟩:=List.mem_map.1 hu;exact⟨rfl,by simp[Value.cells,Value.oneCell']⟩
 ·cases hs
end
structure Res where
 a:AV
 h:AH
 nx:Nat
 k:Option Nat
 C:Option Prop
def Dom (φ:Phi) (nx:Nat):Prop:=∀b,nx≤b→φ b=none∧φ.s b=none
noncomputable def Y2i (k:Option Nat) (a:AV):AV:=match k with
 |none=>a
 |some b=>H5 b a
def Keeps (φ φ':Phi) (k:Option Nat):Prop:=φ'.f=φ.f∧(∀a v,VR φ a v→VR φ' (Y2i k a) v)∧∀b x,φ b=some x→φ' b=some x
theorem Keeps.of_le {φ φ':Phi} (h:φ.le φ') (hf:φ'.f=φ.f:=by rfl):Keeps φ φ' none:=⟨hf,fun _ _ k=>k.mono h,h.m⟩
def Q84 (P:Program) (ρ:Operand→Value) (o:Oper) (w:World) (v:Value) (w':World):Prop:=(execOp ρ o).run P w = .ok (.value v) w'∨((execOp ρ o).run P w = .ok .skip w'∧v=undef)
def Y6o (P:Program) (B:Bas) (φ:Phi) (w:World) (ρ:Operand→Value) (o:Oper) (r:Res):Prop :=
 Bk r.C→∃φ' w' v,Q84 P ρ o w v w'∧VR φ' r.a v∧Rel B φ' r.h w'∧Keeps φ φ' r.k∧Dom φ' r.nx
def Phi.extS (φ:Phi) (b:Nat) (v:Value):Phi:=⟨φ.m,fun i=>if i=b then some v else φ.s i,φ.f⟩
theorem Phi.extS_same (φ:Phi) (b:Nat) (v:Value):(φ.extS b v).s b=some v:=if_pos rfl
theorem Phi.extS_le {φ:Phi} {b:Nat} {v:Value} (h:φ.s b=none):φ.le (φ.extS b v) :=
 ⟨fun _ _ e=>e,fun i y e=>by show(if i=b then _ else _)=_;rw[if_neg (by rintro rfl;rw[h] at e;cases e)];exact e,fun _ _ e=>e⟩
theorem Phi.extS_turn (φ:Phi) (b:Nat) (v:Value):Turn φ (φ.extS b v) b:=⟨fun _=>rfl,fun c hc=>if_neg hc,fun _ _ e=>e⟩
theorem Dom.ext {φ:Phi} {nx x:Nat} (d:Dom φ nx):Dom (φ.ext nx x) (nx+1):=fun b hb=>⟨by show(if b=nx then _ else _)=_;rw[if_neg (by omega)];exact(d b (by omega)).1,(d b (by omega)).2⟩
theorem Dom.extS {φ:Phi} {nx:Nat} {v:Value} (d:Dom φ nx):Dom (φ.extS nx v) (nx+1):=fun b hb=>⟨(d b (by omega)).1,by show(if b=nx then _ else _)=_;rw[if_neg (by omega)];exact(d b (by omega)).2⟩
section
variable (P : Program)
noncomputable def zok (e sz:Nat):Bool:=match P.info? e with
 |some i=>(match i.zero with|some z=>Nat.beq z.cells.size sz|none=>false)
 |none=>false
noncomputable def Pj (e sz:Nat) (a:AV) (h:AH) (nx:Nat):Option (Nat × AH × Nat):=match a with
 |.own b=>some (b,h,nx)
 |.nils=>some (nx,B1 nx (.grow [] e sz) h,nx+1)
 |.sl b 0 n c op=>match op with
  |false=>match A3 b h with
   |some (.row cs e')=>bif Nat.beq e' e&&Nat.beq (n*sz) cs.length&&Nat.beq c n&&frzl cs&&ones cs&&Nat.ble n 1000000 then some (nx,B1 nx (.grow (Ge sz n cs) e sz) (Cr b h),nx+1) else none
   |_=>none
  |true=>none
 |_=>none
noncomputable def Yg (t tx:Nat) (a x:AV) (h:AH) (nx:Nat):Option Res:=match Fj P t with
 |some e=>match tsz P e with
  |some sz=>match tby P e with
   |some by_=>bif zok P e sz&&Nat.blt 0 sz&&Nat.blt 0 by_ then match Pj e sz a h nx with
     |some (b,h1,nx1)=>match Vf P sz tx x h1 with
      |some (m,news)=>match A3 b h1 with
       |some (.grow es e' sz')=>bif Nat.beq e' e&&Nat.beq sz' sz then some ⟨.own b,B1 b (.grow (es++news) e sz) (E0 b h1),nx1,some b,some ((es.length+m)*by_≤140737488355328)⟩ else none
       |_=>none
      |none=>none
     |none=>none
    else none
   |none=>none
  |none=>none
 |none=>none
end
section
variable {P : Program} {φ : Phi} {B : Bas} {w : World} {h : AH} {nx : Nat}
theorem Y4 {e sz by_:Nat} (h1:zok P e sz=true) (h2:tsz P e=some sz) (h3:tby P e=some by_):∃i z,P.info? e=some i∧i.zero=some z∧z.cells.size=sz∧i.size=sz∧i.bytes=by_:=by
 obtain⟨i,hi,hb,hs⟩:=U7 h3 h2;unfold zok at h1;rw[hi] at h1;simp only at h1;split at h1
 ·rename_i z hz;exact⟨i,z,hi,hz,Nat.eq_of_beq_eq_true h1,hs,hb⟩
 ·cases h1
theorem Su {base size n:Nat} {e:TypeId} {v:Value} {xs:List Value} (h:w.ownsRow base e size v n xs):∃a c,v = .slice a n c:=by
 rcases h.2 with⟨rfl,rfl⟩|⟨g,cap,cur,rfl,_⟩<;>exact⟨_,_,rfl⟩
theorem Rx {e sz:Nat} {a:AV} {v:Value} {b nx1:Nat} {h1:AH} (ht:Pj e sz a h nx=some (b,h1,nx1)) (hsz:0 < sz) (hv:VR φ a v) (r:Rel B φ h w) (d:Dom φ nx) :
  ∃φ1,φ.le φ1∧Rel B φ1 h1 w∧Dom φ1 nx1∧φ1.s b=some v∧φ1.f=φ.f:=by
 unfold Pj at ht;split at ht
 ·cases ht;simp only[VR] at hv;exact⟨φ,Phi.le_refl _,r,d,hv.1,rfl⟩
 ·cases ht;simp only[VR] at hv;subst hv;have hs:=(d nx (Nat.le_refl _)).2;refine⟨φ.extS nx (.slice none 0 0),Phi.extS_le hs,?_,d.extS,Phi.extS_same _ _ _,rfl⟩;refine(r.go (Phi.extS_le hs) (Below.refl _ _) r.fro (fun b o q => .inl q)).add ⟨_,[],Phi.extS_same _ _ _,World.ownsRow_nil w _ _ _,.nil,by simp⟩ fun k hk=>?_;simp[img,Phi.extS_same,Value.ownBlock] at hk
 ·rename_i b' n c op;split at ht
  ·split at ht
   ·rename_i cs e' hb;obtain⟨h3,h4⟩:=Eo (f:=none) ht;cases h4;simp only[Bool.and_eq_true] at h3;obtain⟨⟨⟨⟨⟨c1,c2⟩,c3⟩,c4⟩,c5⟩,c6⟩:=h3;have:=Nat.eq_of_beq_eq_true c1;subst this;have:=Nat.eq_of_beq_eq_true c3;subst this;have c2':=Nat.eq_of_beq_eq_true c2;have c6':=Dx c6;simp only[VR] at hv;obtain⟨y,κ,hφ,hv⟩:=hv
    have hv':v = .slice (some ⟨y,0,none⟩) c c:=by
     rcases hv with⟨q,_⟩|⟨_,hv⟩
     ·cases q
     ·exact hv
    subst hv';obtain⟨vs,e1,e2⟩:=r.rowAt hb hφ;have hl:=e2.length;have hones:=e2.ones c5;obtain⟨us,k1,k2,k3,k4⟩:=Ue hsz c cs vs.toList (VRl.fz e2 c4) (by omega) c5 hones
    have hi:img φ b' (.row cs e') y:=by simp[img,hφ]
    have hgf:=r.gf b' _ y hb hi;have hs:=(d nx (Nat.le_refl _)).2
    have hown:w.ownsRow 0 e' sz (.slice (some ⟨y,0,none⟩) c c) c vs.toList:=by
     refine⟨by omega,.inr ⟨y,c,vs,rfl,Nat.zero_le _,e1,Nat.le_refl _,by unfold maxLen;omega,by simp at hl;omega,?_⟩⟩;rw[List.take_of_length_le (by omega)]
    refine⟨φ.extS nx (.slice (some ⟨y,0,none⟩) c c),Phi.extS_le hs,?_,d.extS,Phi.extS_same _ _ _,rfl⟩
    have hcl:(Ge sz c cs).length=c:=by rw[←k1.length,k2]
    refine((r.del b').go (Phi.extS_le hs) (Below.refl _ _) r.fro (fun b o q => .inl q)).add ⟨_,us,Phi.extS_same _ _ _,by rw[k4,hcl];exact hown,k1,fun u hu=>⟨k3 u hu,fun c hc=>hones c (by rw[←k4];exact List.mem_flatMap.2 ⟨u,hu,hc⟩)⟩⟩ fun k hk=>?_;simp only[img,Phi.extS_same,Value.ownBlock,Option.bind_some,Option.some.injEq] at hk;subst hk;refine⟨hgf.1,hgf.2.1,hgf.2.2,fun c' o' hc' e'' i''=>?_⟩;have e3:=D6 e'';have s:SameO φ (φ.extS nx (.slice (some ⟨y,0,none⟩) c c)) c' o':=SameO.of_le (Phi.extS_le hs) (r.obj c' o' e3.2);rw[s.img] at i'';exact e3.1 (r.sep c' b' o' _ y e3.2 hb i'' hi)
   ·cases ht
  ·cases ht
 ·cases ht
theorem Y3p {t tx ty:Nat} {a x:AV} {av xv:Value} {r:Res} (ha:Yg P t tx a x h nx=some r) (hC:Bk r.C) (hav:VR φ a av) (hxv:VR φ x xv) (rl:Rel B φ h w) (d:Dom φ nx) :
  ∃φ' w' v,(Builtin.append_ #[t,tx] ty #[av,xv]).run P w = .ok v w'∧VR φ' r.a v∧Rel B φ' r.h w'∧Keeps φ φ' r.k∧Dom φ' r.nx:=by
 unfold Yg at ha;split at ha
 ·rename_i e he;split at ha
  ·rename_i sz hsz;split at ha
   ·rename_i by_ hby
    obtain⟨h3,h4⟩:(zok P e sz&&Nat.blt 0 sz&&Nat.blt 0 by_)=true∧_:=by
     cases hq:(zok P e sz&&Nat.blt 0 sz&&Nat.blt 0 by_) with
     |false=>rw[hq] at ha;cases ha
     |true=>rw[hq,cond_true] at ha;exact⟨rfl,ha⟩
    simp only[Bool.and_eq_true] at h3;obtain⟨⟨c1,c2⟩,c3⟩:=h3
    have c2':0 < sz:=by simpa [Nat.blt_eq] using c2
    have c3':0 < by_:=by simpa [Nat.blt_eq] using c3
    split at h4
    ·rename_i b h1 nx1 hth;obtain⟨φ1,hle,r1,d1,hs1,hf1⟩:=Rx hth c2' hav rl d;split at h4
     ·rename_i m news hsrc;split at h4
      ·rename_i es e' sz' hb;obtain⟨h5,h6⟩:=Eo (f:=none) h4;subst h6;simp only[Bool.and_eq_true] at h5;have:=Nat.eq_of_beq_eq_true h5.1;subst this;have:=Nat.eq_of_beq_eq_true h5.2;subst this;obtain⟨us,vs,q1,q2,q3,q4,q5⟩:=X00 hsrc (hxv.mono hle) r1;obtain⟨v0,vs0,p1,p2,p3,p4⟩:=r1.obj b _ hb;rw[hs1] at p1;cases p1;obtain⟨i,z,hi,hz,hzs,his,hib⟩:=Y4 c1 hsz hby;have hC':(es.length+m)*by_≤140737488355328:=hC
       have hsm:es.length+m≤9223372036854775807:=by
        have:(es.length+m)*1≤(es.length+m)*by_:=Nat.mul_le_mul_left _ c3';omega
       subst his hib;obtain⟨v',w',g1,g2,g3,g4⟩:=X2b (P:=P) (ty:=ty) w (Ef he) hi hz hzs c2' p2 q1 hsm hC' (Nat.zero_le _)
       have hlen:(es++news).length=es.length+m:=by rw[List.length_append,←q2.length,q3]
       have hat:At B (φ1.extS b v') w' b (.grow (es++news) e' i.size):=by
        refine⟨v',vs0++vs,Phi.extS_same _ _ _,?_,p3.append q2,fun u hu=>?_⟩
        ·rw[hlen,List.flatMap_append,←q4];exact g2
        ·rcases List.mem_append.1 hu with hu|hu
         ·exact p4 u hu
         ·exact q5 u hu
       obtain⟨ad,cc,hform⟩:=Su g2;refine⟨φ1.extS b v',w',v',g1,by simp only[VR];exact⟨Phi.extS_same _ _ _,ad,_,cc,hform⟩,r1.grown hb hs1 (Phi.extS_turn _ _ _) (Phi.extS_same _ _ _) rfl g3 g4 (fun k hk=>(g2.lt k hk).2) hat,⟨hf1,fun a u k=>Vr (Phi.extS_turn _ _ _) (k.mono hle),hle.m⟩,fun c hc=>⟨(d1 c hc).1,?_⟩⟩;show(if c=b then _ else _)=_;rw[if_neg (by rintro rfl;rw[(d1 c hc).2] at hs1;cases hs1)];exact(d1 c hc).2
      ·cases h4
     ·cases h4
    ·cases h4
   ·cases ha
  ·cases ha
 ·cases ha
end
abbrev Fr:=List (Nat × AV)
noncomputable def Ck (t:Nat):Fr→Option AV
 |[]=>none
 |(k,a)::r=>bif Nat.beq k t then some a else Ck t r
noncomputable def Gi (t:Nat) (a:AV):Fr→Fr
 |[]=>[(t,a)]
 |(k,x)::r=>bif Nat.beq k t then (k,a)::r else (k,x)::Gi t a r
theorem P8 (t:Nat) (a:AV):∀s:Fr,Ck t (Gi t a s)=some a
 |[]=>by simp only[Gi,Ck,Nat.beq_refl,cond_true]
 |(k,x)::r=>by
  rcases D2 k t with⟨e,_⟩|⟨e,_⟩<;>simp only[Gi,e,cond_true,cond_false,Ck];exact P8 t a r
theorem P9 {t u:Nat} (a:AV) (hne:u≠t):∀s:Fr,Ck u (Gi t a s)=Ck u s
 |[]=>by simp only[Gi,Ck,I8 (Ne.symm hne),cond_false]
 |(k,x)::r=>by
  rcases D2 k t with⟨e,h1⟩|⟨e,_⟩
  ·subst h1;simp only[Gi,Nat.beq_refl,cond_true,Ck,I8 (Ne.symm hne),cond_false]
  ·simp only[Gi,e,cond_false,Ck,P9 a hne r]
noncomputable def Ih (f:AV→AV):Fr→Fr
 |[]=>[]
 |(k,a)::r=>(k,f a)::Ih f r
theorem Qa (f:AV→AV) (t:Nat):∀s:Fr,Ck t (Ih f s)=(Ck t s).map f
 |[]=>rfl
 |(k,x)::r=>by
  simp only[Ih,Ck];rcases D2 k t with⟨e,_⟩|⟨e,_⟩<;>simp only[e,cond_true,cond_false,Option.map_some,Qa f t r]
noncomputable def evA (s:Fr):Operand→Option AV
 |.tmp t=>Ck t s
 |.const v=>ofV v
 |.func f=>some (.fn f [] [])
 |.global _=>none
def FRel (φ:Phi) (n:Nat) (s:Fr) (σ:Nat→Value):Prop:=∀t a,Ck t s=some a→VR φ a (sl n σ t)
theorem FRel.ev {φ:Phi} {n:Nat} {s:Fr} {σ:Nat→Value} (r:FRel φ n s σ):EVR φ (evA s) (ev n σ):=by
 intro x a h
 cases x with
 |tmp t=>exact r t a h
 |const v=>exact Q2d h
 |func f =>
  simp only[evA,Option.some.injEq] at h;subst h;simp only[VR,Go.Proofs.YtglcebdfdehidaaGreatDoor.ev];exact⟨[],[],.nil,.nil,rfl⟩
 |global g=>cases h
noncomputable def Ud (k:Option Nat) (s:Fr):Fr:=match k with
 |none=>s
 |some b=>Ih (H5 b) s
theorem FRel.keeps {φ φ':Phi} {k:Option Nat} {n:Nat} {s:Fr} {σ:Nat→Value} (r:FRel φ n s σ) (hk:Keeps φ φ' k):FRel φ' n (Ud k s) σ:=by
 intro t a h
 cases k with
 |none=>exact hk.2.1 _ _ (r t a h)
 |some b =>
  simp only[Ud,Qa] at h;obtain⟨a0,h1,rfl⟩:=Option.map_eq_some_iff.1 h;exact hk.2.1 _ _ (r t a0 h1)
noncomputable def B3 (n:Nat) (dst:Option Nat) (a:AV) (s:Fr):Option Fr:=match dst with
 |none=>some s
 |some d=>bif Nat.blt d n then some (Gi d a s) else none
theorem pS {o:Option Fr} (h:o.isSome=true:=by kernel_rfl):o=some (o.getD []):=by
 cases o with
 |none=>cases h
 |some a=>rfl
theorem Z3 {n d t:Nat} {σ:Nat→Value} {v:Value} (hd:d < n):sl n (upd σ d v) t=if t=d then v else sl n σ t:=by
 unfold sl upd;by_cases h:t=d
 ·subst h
  have:Nat.blt t n=true:=by simpa [Nat.blt_eq] using hd
  simp[this]
 ·have:Nat.beq t d=false:=I8 h;simp[this,h]
theorem FRel.put {φ:Phi} {n:Nat} {s s':Fr} {σ:Nat→Value} {dst:Option Nat} {a:AV} {v:Value} (r:FRel φ n s σ) (h:B3 n dst a s=some s') (hv:VR φ a v):FRel φ n s' (Bn σ dst v):=by
 cases dst with
 |none=>cases h;exact r
 |some d =>
  unfold B3 at h;obtain⟨h1,h2⟩:=Eo (f:=none) h;subst h2
  have hd:d < n:=by simpa [Nat.blt_eq] using h1
  intro t b hb;simp only[Bn];rw[Z3 hd];by_cases ht:t=d
  ·subst ht;rw[P8] at hb;cases hb;rw[if_pos rfl];exact hv
  ·rw[P9 _ ht] at hb;rw[if_neg ht];exact r t b hb
section
variable (P : Program) (eA : Operand → Option AV)
noncomputable def roS (o:Oper) (h:AH):PC:=match Pu P eA o with
 |some r=>some r
 |none=>match o.op with
  |.load t x=>match eA x with
   |some a=>match Mt P t a h with
    |some r=>some (r,none)
    |none=>none
   |none=>none
  |.call c=>match c.callee with
   |.builtin .len=>match c.args.toList,c.argTypes.toList with
    |[x],[t]=>match eA x with
     |some (.own b)=>match Fj P t with
      |some _=>match A3 b h with
       |some (.grow es _ _)=>some (.int .i64 (es.length:Int),none)
       |_=>none
      |none=>none
     |_=>none
    |_,_=>none
   |_=>none
  |_=>none
noncomputable def Q7x (c:Call) (h:AH) (nx:Nat):Option Res:=match c.callee with
 |.builtin .append=>match c.args.toList,c.argTypes.toList with
  |[x,y],[t,u]=>match eA x with
   |some a=>match eA y with
    |some b=>Yg P t u a b h nx
    |none=>none
   |none=>none
  |_,_=>none
 |_=>none
noncomputable def opS (o:Oper) (h:AH) (nx:Nat):Option Res:=match roS P eA o h with
 |some r=>some ⟨r.1,h,nx,none,r.2⟩
 |none=>match o.op with
  |.store t x y=>match eA x with
   |some a=>match eA y with
    |some b=>match U9 P t a b h with
     |some h'=>some ⟨.tup [],h',nx,none,none⟩
     |none=>none
    |none=>none
   |none=>none
  |.call c=>Q7x P eA c h nx
  |_=>match S7 P eA o with
   |some (k,ao)=>some ⟨k.av nx,B1 nx ao h,nx+1,none,none⟩
   |none=>none
end
section
variable {P : Program} {eA : Operand → Option AV} {φ : Phi} {B : Bas} {w : World} {h : AH} {nx n : Nat} {σ : Nat → Value}
theorem L4:VR φ (.tup []) undef:=by simp only[VR];exact⟨[],.nil,rfl⟩
theorem Q0l (hev:EVR φ eA (ev n σ)) {o:Oper} {a:AV} {C:Option Prop} (ho:roS P eA o h=some (a,C)) (hC:Bk C) (r:Rel B φ h w):∃v,(execOp (ev n σ) o).run P w = .ok (.value v) w∧VR φ a v:=by
 unfold roS at ho;split at ho
 ·rename_i q hq;cases ho;obtain⟨v,h1,h2⟩:=V3 hev hq hC;exact⟨v,h1 w,h2⟩
 ·obtain⟨dst,op,ty,ps,af,g⟩:=o;split at ho
  ·rename_i t x hop;simp only at hop;subst hop;split at ho
   ·rename_i a' ha;split at ho
    ·rename_i q hq;cases ho;obtain⟨v,h1,h2⟩:=Q3g hq (hev _ _ ha) r;exact⟨v,by simp only[execOp,Sem.run_bind,h1,Result.andThen_ok,Sem.run_pure],h2⟩
    ·cases ho
   ·cases ho
  ·rename_i c hop;simp only at hop;subst hop;split at ho
   ·rename_i hcal;split at ho
    ·rename_i x t hargs htys;split at ho
     ·rename_i b hb;split at ho
      ·rename_i e he;split at ho
       ·rename_i es e' sz hg;cases ho;have hx:=hev _ _ hb;simp only[VR] at hx;obtain⟨v,vs,q1,q2,q3,q4⟩:=r.obj b _ hg;rw[hx.1] at q1;obtain⟨cal,args,tys⟩:=c;simp only at hcal hargs htys;subst hcal
        have ha:args = #[x]:=by apply Array.ext';simpa using hargs
        have ht:tys = #[t]:=by apply Array.ext';simpa using htys
        subst ha ht;refine⟨_,?_,Ja⟩;have hform:ev n σ x=v:=Option.some.inj q1;rcases q2.2 with⟨hv,hn⟩|⟨gg,cap,cur,hv,_⟩
        ·rw[hn];simp[execOp,resolve,invoke,builtin,Builtin.len_,hform,hv,run_underlying (Ef he),go_sem,goInt]
        ·simp[execOp,resolve,invoke,builtin,Builtin.len_,hform,hv,run_underlying (Ef he),go_sem,goInt]
       ·cases ho
      ·cases ho
     ·cases ho
    ·cases ho
   ·cases ho
  ·cases ho
theorem X36 (hev:EVR φ eA (ev n σ)) {o:Oper} {r:Res} (ho:opS P eA o h nx=some r) (rl:Rel B φ h w) (d:Dom φ nx):Y6o P B φ w (ev n σ) o r:=by
 intro hC;unfold opS at ho;split at ho
 ·rename_i q hq;cases ho;obtain⟨v,h1,h2⟩:=Q0l hev (C:=q.2) hq hC rl;exact⟨φ,w,v,.inl h1,h2,rl,Keeps.of_le (Phi.le_refl _),d⟩
 ·have newcase:∀{k:NK} {ao:AO},S7 P eA o=some (k,ao)→r=⟨k.av nx,B1 nx ao h,nx+1,none,none⟩→∃φ' w' v,Q84 P (ev n σ) o w v w'∧VR φ' r.a v∧Rel B φ' r.h w'∧Keeps φ φ' r.k∧Dom φ' r.nx:=by
   intro k ao hn e;subst e;obtain⟨hng,ob,h1,h2⟩:=X4p hev hn;have hnx:=(d nx (Nat.le_refl _)).1;have hle:=Phi.ext_le (x:=w.heap.size) hnx;exact⟨φ.ext nx w.heap.size,w.alloc ob,_,.inl (h2 w),NK.vr (Phi.ext_same _ _ _),rl.alloc hnx hng (h1 B _ _ nx _ hle (Phi.ext_same _ _ _) (heap_alloc_new w ob)),Keeps.of_le hle,d.ext⟩
  split at ho
  ·rename_i t x y hop;split at ho
   ·rename_i a ha;split at ho
    ·rename_i b hb;split at ho
     ·rename_i h' hs;cases ho;obtain⟨w',h1,h2⟩:=X0v hs (hev _ _ ha) (hev _ _ hb) rl;refine⟨φ,w',undef,.inr ⟨?_,rfl⟩,L4,h2,Keeps.of_le (Phi.le_refl _),d⟩;obtain⟨dst,op,ty,ps,af,g⟩:=o;simp only at hop;subst hop;exact Se h1
     ·cases ho
    ·cases ho
   ·cases ho
  ·rename_i c hop;unfold Q7x at ho;split at ho
   ·rename_i hcal;split at ho
    ·rename_i x y t u hargs htys;split at ho
     ·rename_i a ha;split at ho
      ·rename_i b hb;obtain⟨φ',w',v,g1,g2,g3,g4,g5⟩:=Y3p (ty:=o.type) ho hC (hev _ _ ha) (hev _ _ hb) rl d;refine⟨φ',w',v,.inl ?_,g2,g3,g4,g5⟩;obtain⟨dst,op,ty,ps,af,g⟩:=o;simp only at hop;subst hop;obtain⟨cal,args,tys⟩:=c;simp only at hcal hargs htys;subst hcal
       have ha':args = #[x,y]:=by apply Array.ext';simpa using hargs
       have ht':tys = #[t,u]:=by apply Array.ext';simpa using htys
       subst ha' ht';simp only[execOp,resolve,invoke,builtin,Sem.run_bind,Sem.run_pure,Result.andThen_ok,List.map_toArray,List.map_cons,List.map_nil,g1]
      ·cases ho
     ·cases ho
    ·cases ho
   ·cases ho
  ·split at ho
   ·rename_i k ao hn;cases ho;exact newcase hn rfl
   ·cases ho
end
structure St where
 s:Fr
 h:AH
 nx:Nat
noncomputable def inL (d:Option Nat):List Nat→Bool
 |[]=>false
 |x::r=>match d with
  |some y=>Nat.beq x y||inL d r
  |none=>false
noncomputable def Oj (t:Nat):List Operand→Bool
 |[]=>false
 |.tmp u::l=>Nat.beq u t||Oj t l
 |_::l=>Oj t l
noncomputable def Jd (l:List Operand) (e:Operand→Option AV) (x:Operand):Option AV:=match e x with
 |some (.cond _ a)=>(match x with
  |.tmp t=>bif Oj t l then some a else e x
  |_=>none)
 |r=>r
noncomputable def Lb:Op→List Operand
 |.pick c _ _=>[c]
 |o=>o.operands.toList
noncomputable def E7 (e:Operand→Option AV):List Operand→Option Prop
 |[]=>none
 |x::l=>match e x with
  |some (.cond q _)=>Kv (some (q=true)) (E7 e l)
  |_=>E7 e l
noncomputable def Pg (want q:Bool):Bool:=bif want then q else !q
noncomputable def Qk (want:Bool):Option AV→Option Bool
 |some (.bool q)=>some (Pg want q)
 |some (.cond q' (.bool q))=>some (q'&&Pg want q)
 |some (.tup [])=>some false
 |_=>none
noncomputable def K7 (P:Program) (n:Nat) (ops:Array Oper) (lz:List Nat) (o:Oper) (x:St):Option (St × Option Prop) :=
 let run:Option (St × Option Prop):=match opS P (evA x.s) o x.h x.nx with
  |some r=>match B3 n o.dst r.a (Ud r.k x.s) with
   |some s'=>some (⟨s',r.h,r.nx⟩,r.C)
   |none=>none
  |none=>none
 match o.guard with
 |none=>run
 |some (j,want)=>match Jq ops.toList j with
  |some t=>match Qk want (Ck t x.s) with
   |some q=>bif inL o.dst lz then (match roS P (Jd (Lb o.op) (evA x.s)) o x.h with
     |some (a,C)=>match B3 n o.dst (.cond q a) x.s with
      |some s'=>some (⟨s',x.h,x.nx⟩,match Kv (E7 (evA x.s) (Lb o.op)) C with
       |some p=>some (q=true→p)
       |none=>none)
      |none=>none
     |none=>none) else (bif q then run else match B3 n o.dst (.tup []) x.s with
      |some s'=>some (⟨s',x.h,x.nx⟩,none)
      |none=>none)
   |_=>none
  |none=>none
theorem yS {o:Option St} (h:o.isSome=true:=by kernel_rfl):o=some (o.getD ⟨[],[],0⟩):=by
 cases o with
 |none=>cases h
 |some a=>rfl
theorem hS {o:Option AH} (h:o.isSome=true:=by kernel_rfl):o=some (o.getD []):=by
 cases o with
 |none=>cases h
 |some a=>rfl
structure Cx where
 f:Nat→Option Obj
 m:Nat→Option (Nat × Nat)
 lo:Nat
 hm:∀b x,m b=some x→b < lo
structure Holds (B:Bas) (F:Cx) (n:Nat) (x:St) (φ:Phi) (σ:Nat→Value) (w:World):Prop where
 fr:FRel φ n x.s σ
 rel:Rel B φ x.h w
 dom:Dom φ x.nx
 old:∀b o,F.f b=some o→φ.f b=some o
 new:∀b o,φ.f b=some o→F.f b=some o∨¬B.old b
 base:∀b x,F.m b=some x→φ b=some x
section
variable {P : Program} {B : Bas} {w : World} {F : Cx} {n : Nat} {φ : Phi} {σ : Nat → Value} {ops : Array Oper} {Q : Exit → (Nat → Value) → World → Prop} {rest : List Oper}
theorem Wg {e:Operand→Option AV}:∀{l:List Operand},Bk (E7 e l)→∀{t:Nat} {q:Bool} {a:AV},Oj t l=true→e (.tmp t)=some (.cond q a)→q=true
 |[],_,_,_,_,h,_=>by cases h
 |x::l,hn,t,q,a,h,he=>by
  have hn':Bk (E7 e l):=by
   unfold E7 at hn;split at hn
   ·exact(Q5 hn).2
   ·exact hn
  cases x with
  |tmp u =>
   simp only[Oj,Bool.or_eq_true] at h;rcases h with h|h
   ·have:=Nat.eq_of_beq_eq_true h;subst this;unfold E7 at hn;rw[he] at hn;exact(Q5 hn).1
   ·exact Wg hn' h he
  |_=>exact Wg hn' h he
theorem Nn {s:Fr} {l:List Operand} (hr:FRel φ n s σ) (hn:Bk (E7 (evA s) l)):EVR φ (Jd l (evA s)) (ev n σ):=by
 intro x a h;unfold Jd at h;split at h
 ·rename_i q b hb;split at h
  ·rename_i t
   cases h1:Oj t l with
   |true =>
    rw[h1,cond_true] at h;cases h;exact(hr.ev _ _ hb).condT (Wg hn h1 hb)
   |false=>rw[h1,cond_false] at h;exact hr.ev _ _ h
  ·cases h
 ·exact hr.ev _ _ h
theorem W1 {s:Fr} {t:Nat} {want r:Bool} (hr:FRel φ n s σ) (h:Qk want (Ck t s)=some r):isB want (sl n σ t)=r:=by
 unfold Qk at h;split at h
 ·rename_i q hq;cases h;have:=hr _ _ hq;simp only[VR] at this;rw[this];simp only[isB,Pg]
 ·rename_i q' q hq;cases h;have:=hr _ _ hq;simp only[VR] at this
  cases q' with
  |true=>rw[this.1 rfl];simp only[isB,Pg,Bool.true_and]
  |false=>rw[this.2 rfl rfl];rfl
 ·rename_i hq;cases h;have:=hr _ _ hq;simp only[VR] at this;obtain⟨vs,h1,h2⟩:=this;rw[h2,h1.nil_inv];rfl
 ·cases h
theorem Zx {o:Oper} {x y:St} {C:Option Prop} (hx:Holds B F n x φ σ w) (hg:gOk ops n σ o.guard=true)
  (hs:(match opS P (evA x.s) o x.h x.nx with|some r=>(match B3 n o.dst r.a (Ud r.k x.s) with|some s'=>some ((⟨s',r.h,r.nx⟩:St),r.C)|none=>none)|none=>none)=some (y,C)) (hC:Bk C)
  (next:∀φ' σ' w',Holds B F n y φ' σ' w'→φ'.f=φ.f→WO P n ops rest Q σ' w'):WO P n ops (o::rest) Q σ w:=by
 split at hs
 ·rename_i r hr;split at hs
  ·rename_i s' hp;cases hs;obtain⟨φ',w',v,h1,h2,h3,h4,h5⟩:=X36 hx.fr.ev hr hx.rel hx.dom hC
   have hh:Holds B F n ⟨s',r.h,r.nx⟩ φ' (Bn σ o.dst v) w':=⟨(hx.fr.keeps h4).put hp h2,h3,h5,fun b o q=>by rw[h4.1];exact hx.old b o q,fun b o q=>by rw[h4.1] at q;exact hx.new b o q,fun b o q=>h4.2.2 _ _ (hx.base b o q)⟩
   rcases h1 with h1|⟨h1,rfl⟩
   ·exact B8 hg h1 (next _ _ _ hh h4.1)
   ·exact Hd hg h1 (next _ _ _ hh h4.1)
  ·cases hs
 ·cases hs
theorem Vd {lz:List Nat} {o:Oper} {x y:St} {C:Option Prop} (hx:Holds B F n x φ σ w) (hs:K7 P n ops lz o x=some (y,C)) (hC:Bk C)
  (next:∀φ' σ' w',Holds B F n y φ' σ' w'→φ'.f=φ.f→WO P n ops rest Q σ' w'):WO P n ops (o::rest) Q σ w:=by
 unfold K7 at hs;simp only at hs
 cases hgd:o.guard with
 |none =>
  rw[hgd] at hs;exact Zx hx (by rw[hgd];rfl) hs hC next
 |some g =>
  obtain⟨j,want⟩:=g;rw[hgd] at hs;simp only at hs;split at hs
  ·rename_i t ht;split at hs
   ·rename_i q hq
    have hgk:gOk ops n σ o.guard=q:=by
     rw[hgd];simp only[gOk,ht];exact W1 hx.fr hq
    cases hlz:inL o.dst lz with
    |true =>
     rw[hlz,cond_true] at hs;split at hs
     ·rename_i a C' hro;split at hs
      ·rename_i s' hp;cases hs
       cases hw:q with
       |false =>
        refine D9 (by rw[hgk,hw]) (next φ _ w ⟨hx.fr.put hp (by rw[hw];exact K0),hx.rel,hx.dom,hx.old,hx.new,hx.base⟩ rfl)
       |true =>
        have hC':Bk (Kv (E7 (evA x.s) (Lb o.op)) C'):=by
         revert hC
         cases Kv (E7 (evA x.s) (Lb o.op)) C' with
         |none=>intro _;trivial
         |some p=>intro h;exact h hw
        obtain⟨c1,c2⟩:=Q5 hC';obtain⟨v,h1,h2⟩:=Q0l (Nn hx.fr c1) hro c2 hx.rel;exact B8 (by rw[hgk,hw]) h1 (next φ _ w ⟨hx.fr.put hp (by rw[hw];exact Nf h2),hx.rel,hx.dom,hx.old,hx.new,hx.base⟩ rfl)
      ·cases hs
     ·cases hs
    |false =>
     rw[hlz,cond_false] at hs
     cases hw:q with
     |true =>
      rw[hw,cond_true] at hs;exact Zx hx (by rw[hgk,hw]) hs hC next
     |false =>
      rw[hw,cond_false] at hs;split at hs
      ·rename_i s' hp;cases hs;exact D9 (by rw[hgk,hw]) (next φ _ w ⟨hx.fr.put hp L4,hx.rel,hx.dom,hx.old,hx.new,hx.base⟩ rfl)
      ·cases hs
   ·cases hs
  ·cases hs
end
def E8 (B:Bas) (F:Cx) (n:Nat) (K:Exit→St→Prop):Exit→(Nat→Value)→World→Prop:=fun e σ w=>∃x φ,Holds B F n x φ σ w∧K e x
def SO (P:Program) (n:Nat) (ops:Array Oper) (l:List Oper) (B:Bas) (F:Cx) (K:Exit→St→Prop) (x:St):Prop:=∀φ σ w,Holds B F n x φ σ w→WO P n ops l (E8 B F n K) σ w
def SW (P:Program) (n:Nat) (c:Code) (B:Bas) (F:Cx) (K:Exit→St→Prop) (x:St):Prop:=∀φ σ w,Holds B F n x φ σ w→W P n c (E8 B F n K) σ w
def K8 (k:St→Prop) (K:Exit→St→Prop):Exit→St→Prop
 |.normal,x=>k x
 |e,x=>K e x
def Q7h (id:Nat) (K:Exit→St→Prop):Exit→St→Prop
 |.exit i,x=>bif Nat.beq i id then K .normal x else K (.exit i) x
 |e,x=>K e x
noncomputable def Hi:List Nat→Fr→Option Fr
 |[],_=>some []
 |t::ts,s=>match Ck t s with
  |some a=>match Hi ts s with
   |some r=>some ((t,a)::r)
   |none=>none
  |none=>none
theorem Wm {s:Fr}:∀{ts:List Nat} {r:Fr},Hi ts s=some r→∀t a,Ck t r=some a→Ck t s=some a
 |[],_,h,_,_,k=>by cases h;cases k
 |u::ts,_,h,t,a,k=>by
  unfold Hi at h;split at h
  ·rename_i b hb;split at h
   ·rename_i r' hr;cases h;simp only[Ck] at k;rcases D2 u t with⟨e,h1⟩|⟨e,_⟩<;>rw[e] at k
    ·cases k;rw[←h1];exact hb
    ·exact Wm hr t a k
   ·cases h
  ·cases h
section
variable {P : Program} {B : Bas} {w : World} {F : Cx} {n : Nat} {φ : Phi} {σ : Nat → Value} {K : Exit → St → Prop} {x : St}
theorem Holds.sel {s:Fr} {ts:List Nat} (h:Holds B F n x φ σ w) (k:Hi ts x.s=some s):Holds B F n ⟨s,x.h,x.nx⟩ φ σ w:=⟨fun t a e=>h.fr t a (Wm k t a e),h.rel,h.dom,h.old,h.new,h.base⟩
theorem Y2a {K':Exit→St→Prop} (hk:∀e y,K e y→K' e y) {e:Exit} (h:E8 B F n K e σ w):E8 B F n K' e σ w:=by
 obtain⟨y,φ,h1,h2⟩:=h;exact⟨y,φ,h1,hk _ _ h2⟩
theorem Q8s {c:Code} {K':Exit→St→Prop} (h:SW P n c B F K x) (hk:∀e y,K e y→K' e y):SW P n c B F K' x:=fun φ σ w hx=>W_mono (h φ σ w hx) fun e σ w=>Y2a hk
theorem Ab {c d:Code} (h:SW P n c B F (K8 (SW P n d B F K) K) x):SW P n (.seq c d) B F K x:=by
 intro φ σ w hx;refine W_seq (W_mono (h φ σ w hx) ?_);rintro e σ' w' ⟨y,φ',h1,h2⟩
 cases e<;>first|exact h2 φ' σ' w' h1|exact⟨y,φ',h1,h2⟩
theorem Ae (h:K .normal x):SW P n .skip B F K x:=fun φ σ w hx=>W_skip ⟨x,φ,hx,h⟩
theorem Ad (h:K .ret x):SW P n .ret B F K x:=fun φ σ w hx=>W_ret ⟨x,φ,hx,h⟩
theorem Br {id:Nat} (h:K (.exit id) x):SW P n (.exit id) B F K x:=fun φ σ w hx=>Na ⟨x,φ,hx,h⟩
theorem Up {id:Nat} (h:K .normal x):SW P n (.label id) B F K x:=fun φ σ w hx=>Y4b ⟨x,φ,hx,h⟩
theorem Au {id:Nat} {c:Code} (h:SW P n c B F (Q7h id K) x):SW P n (.block id c) B F K x:=by
 intro φ σ w hx;refine Gw (W_mono (h φ σ w hx) ?_);rintro e σ' w' ⟨y,φ',h1,h2⟩
 cases e with
 |exit i =>
  simp only[Q7h] at h2;simp only[Ya];rcases D2 i id with⟨q,_⟩|⟨q,_⟩<;>rw[q] at h2 ⊢ <;> exact⟨y,φ',h1,h2⟩
 |_=>exact⟨y,φ',h1,h2⟩
theorem A7 {o:Operand} {c d:Code} {q:Bool} (ht:q=true→SW P n c B F K x) (hf:q=false→SW P n d B F K x) (hq:evA x.s o=some (.bool q):=by kernel_rfl):SW P n (.cond o c d) B F K x:=by
 intro φ σ w hx;have:=hx.fr.ev _ _ hq;simp only[VR] at this;exact W_cond this (fun h=>ht h φ σ w hx) (fun h=>hf h φ σ w hx)
theorem A4 {o:Operand} {c d:Code} {p:Prop} [Decidable p] (ht:p→SW P n c B F K x) (hf:¬p→SW P n d B F K x) (hq:evA x.s o=some (.bool (decide p)):=by kernel_rfl):SW P n (.cond o c d) B F K x :=
 A7 (fun h=>ht (of_decide_eq_true h)) (fun h=>hf (of_decide_eq_false h)) hq
theorem Y47 {c d:Code} (J:St→Prop) (h:SW P n c B F (K8 J K) x) (r:∀y,J y→SW P n d B F K y):SW P n (.seq c d) B F K x:=by
 refine Ab (Q8s h ?_);intro e y k
 cases e<;>first|exact k|exact r y k
theorem Aj {id:Nat} {l:List Oper} (h:SO P n l.toArray l B F K x):SW P n (.region id l.toArray false) B F K x:=fun φ σ w hx=>W_reg (h φ σ w hx)
theorem Bd {ops:Array Oper} (h:K .normal x):SO P n ops [] B F K x:=fun φ σ w hx=>A0 ⟨x,φ,hx,h⟩
end
def Fro (F:Nat→Option Obj) (w:World):Prop:=∀b o,F b=some o→w.heap[b]? = some o
def ofF (F:Nat→Option Obj):Phi:=⟨fun _=>none,fun _=>none,F⟩
def FnV (P:Program) (f:Nat) (al:List AV) (r:AV):Prop:=∀(F:Nat→Option Obj) (w:World) (vs:List Value),Fro F w→VRl (ofF F) al vs→Calls P f vs.toArray w (Ret fun v w'=>Below w.heap.size w w' ∧
 ∃F',(∀b o,F b=some o→F' b=some o)∧Fro F' w'∧(∀b o,F' b=some o→F b=some o∨w.heap.size≤b)∧VR (ofF F') r v)
noncomputable def Dw (e:Operand→Option AV):List Operand→Option (List AV)
 |[]=>some []
 |x::l=>match e x with
  |some a=>match Dw e l with
   |some r=>some (a::r)
   |none=>none
  |none=>none
theorem E4 {φ:Phi} {e:Operand→Option AV} {ρ:Operand→Value} (hev:EVR φ e ρ):∀{l:List Operand} {r:List AV},Dw e l=some r→VRl φ r (l.map ρ)
 |[],_,h=>by cases h;exact .nil
 |x::l,_,h=>by
  unfold Dw at h;split at h
  ·rename_i a ha;split at h
   ·rename_i r hr;cases h;exact .cons (hev _ _ ha) (E4 hev hr)
   ·cases h
  ·cases h
noncomputable def Cp (ops:Array Oper) (s:Fr):Option (Nat × Bool)→Bool
 |none=>true
 |some (j,want)=>match Jq ops.toList j with
  |some t=>match Ck t s with
   |some (.bool q)=>Pg want q
   |_=>false
  |none=>false
section
variable {P : Program} {B : Bas} {w : World} {F : Cx} {n : Nat} {φ : Phi} {σ : Nat → Value} {K : Exit → St → Prop} {x : St}
theorem Cs {ops:Array Oper} {g:Option (Nat × Bool)} (h:FRel φ n x.s σ) (k:Cp ops x.s g=true):gOk ops n σ g=true:=by
 cases g with
 |none=>rfl
 |some g =>
  obtain⟨j,want⟩:=g;unfold Cp at k;unfold gOk;simp only at k ⊢;split at k
  ·rename_i t ht;split at k
   ·rename_i q hq;have:=h _ _ hq;simp only[VR] at this;rw[ht];simp only[this,isB];exact k
   ·cases k
  ·cases k
theorem Holds.called {w':World} {F':Nat→Option Obj} (hx:Holds B F n x φ σ w) (hb:Below w.heap.size w w') (h1:∀b o,φ.f b=some o→F' b=some o) (h2:Fro F' w') (h3:∀b o,F' b=some o→φ.f b=some o∨w.heap.size≤b) :
  Holds B F n x ⟨φ.m,φ.s,F'⟩ σ w':=by
 have hle:φ.le ⟨φ.m,φ.s,F'⟩:=⟨fun _ _ e=>e,fun _ _ e=>e,h1⟩
 exact⟨fun t a e=>(hx.fr t a e).mono hle,hx.rel.go hle hb h2 h3,hx.dom,fun b o e=>h1 _ _ (hx.old b o e),fun b o e=>(h3 b o e).elim (hx.new b o) (fun q => .inr (fun k=>Nat.lt_irrefl _ (Nat.lt_of_lt_of_le (hx.rel.below.lt k) q))),hx.base⟩
theorem Lz {ops:Array Oper} {rest:List Oper} {f:FuncId} {ar:Array Operand} {ts:Array TypeId} {ty:TypeId} {ps:String} {dst:Option Tmp} {af:Array Edge} {g:Option (Nat × Bool)} {al:List AV} {r:AV} {s':Fr}
  (hg:Cp ops x.s g=true) (he:Ai P f) (ha:Dw (evA x.s) ar.toList=some al) (hz:frzl al=true) (hf:FnV P f al r) (hp:B3 n dst r x.s=some s')
  (next:SO P n ops rest B F K ⟨s',x.h,x.nx⟩):SO P n ops (⟨dst,.call { callee:=.value (.func f),args:=ar,argTypes:=ts },ty,ps,af,g⟩::rest) B F K x:=by
 intro φ σ w hx;have hv:=(E4 hx.fr.ev ha).fz hz;refine Cv (Cs hx.fr hg) he (hf φ.f w _ hx.rel.fro hv) ?_;rintro v w' ⟨hb,F',h1,h2,h3,h4⟩;have hh:=hx.called hb h1 h2 h3;exact next _ _ _ ⟨hh.fr.put hp (h4.mono (Phi.le_fz ⟨φ.m,φ.s,F'⟩)),hh.rel,hh.dom,hh.old,hh.new,hh.base⟩
theorem Y5o {ops:Array Oper} {rest:List Oper} {t:Nat} {f:FuncId} {cap:List AV} {ar:Array Operand} {ts:Array TypeId} {ty:TypeId} {ps:String} {dst:Option Tmp} {af:Array Edge} {g:Option (Nat × Bool)} {al:List AV} {r:AV} {s':Fr}
  (hg:Cp ops x.s g=true) (hc:Ck t x.s=some (.fn f [] cap)) (he:Ai P f) (ha:Dw (evA x.s) ar.toList=some al) (hz:frzl (al++cap)=true) (hf:FnV P f (al++cap) r) (hp:B3 n dst r x.s=some s')
  (next:SO P n ops rest B F K ⟨s',x.h,x.nx⟩):SO P n ops (⟨dst,.call { callee:=.value (.tmp t),args:=ar,argTypes:=ts },ty,ps,af,g⟩::rest) B F K x:=by
 intro φ σ w hx;have hfn:=hx.fr _ _ hc;simp only[VR] at hfn;obtain⟨vf,vc,h1,h2,h3⟩:=hfn;have:=h1.nil_inv;subst this;have hv:=((E4 hx.fr.ev ha).append h2).fz hz;refine Rb (x:=.tmp t) (cap:=vc.toArray) (Cs hx.fr hg) h3 he (by simpa using hf φ.f w _ hx.rel.fro hv) ?_;rintro v w' ⟨hb,F',h1,h2,h3,h4⟩;have hh:=hx.called hb h1 h2 h3;exact next _ _ _ ⟨hh.fr.put hp (h4.mono (Phi.le_fz ⟨φ.m,φ.s,F'⟩)),hh.rel,hh.dom,hh.old,hh.new,hh.base⟩
end
def Ky (h:AH) (al rl:List AV) (h':AH):Prop:=∀(B:Bas) (φ:Phi) (w:World) (vs:List Value),Rel B φ h w→VRl φ al vs→∃F',(∀b o,φ.f b=some o→F' b=some o)∧(∀b o,F' b=some o→φ.f b=some o∨¬B.old b)∧Rel B ⟨φ.m,φ.s,F'⟩ h' w∧VRl (ofF F') rl vs
theorem leF {φ:Phi} {F':Nat→Option Obj} (h:∀b o,φ.f b=some o→F' b=some o):φ.le ⟨φ.m,φ.s,F'⟩:=⟨fun _ _ e=>e,fun _ _ e=>e,h⟩
theorem Jo {F F':Nat→Option Obj} (h:∀b o,F b=some o→F' b=some o):(ofF F).le (ofF F'):=⟨fun _ _ e=>e,fun _ _ e=>e,h⟩
theorem Y35 {h:AH}:Ky h [] [] h:=fun B φ w vs r hv=>⟨φ.f,fun _ _ e=>e,fun _ _ e => .inl e,r,by rw[hv.nil_inv];exact .nil⟩
theorem Y36 {h h1 h2:AH} {a b c d:List AV} (k1:Ky h a c h1) (k2:Ky h1 b d h2):Ky h (a++b) (c++d) h2:=by
 intro B φ w vs r hv
 obtain⟨vs1,vs2,rfl,e1,e2⟩:∃vs1 vs2,vs=vs1++vs2∧VRl φ a vs1∧VRl φ b vs2:=by
  clear k1 k2
  induction a generalizing vs with
  |nil=>exact⟨[],vs,rfl,.nil,hv⟩
  |cons x r ih =>
   obtain⟨v,vs',rfl,h1,h2⟩:=hv.cons_inv;obtain⟨p,q,rfl,e1,e2⟩:=ih _ h2;exact⟨v::p,q,rfl,.cons h1 e1,e2⟩
 obtain⟨F1,f1,f2,f3,f4⟩:=k1 B φ w vs1 r e1;obtain⟨F2,g1,g2,g3,g4⟩:=k2 B ⟨φ.m,φ.s,F1⟩ w vs2 f3 (e2.mono (leF f1));exact⟨F2,fun b o e=>g1 b o (f1 b o e),fun b o e=>(g2 b o e).elim (f2 b o) .inr,g3,(f4.mono (Jo g1)).append g4⟩
theorem Rel.still {B:Bas} {w:World} {φ:Phi} {h:AH} (r:Rel B φ h w) {b k:Nat} {o:AO} {ob:Obj} (hb:A3 b h=some o) (hi:img φ b o k) (hk:w.heap[k]? = some ob) :
  Rel B ⟨φ.m,φ.s,fun i=>if i=k then some ob else φ.f i⟩ (Cr b h) w∧(∀b o,φ.f b=some o→(if b=k then some ob else φ.f b)=some o)∧∀b o,(if b=k then some ob else φ.f b)=some o→φ.f b=some o∨¬B.old b:=by
 have hgf:=r.gf b o k hb hi
 have hle:∀b o,φ.f b=some o→(if b=k then some ob else φ.f b)=some o:=fun c o' e=>by rw[if_neg (by rintro rfl;rw[hgf.2.2] at e;cases e)];exact e
 refine⟨(r.del b).frame (fun c o' e=>SameO.of_le (leF hle) (r.obj c o' (D6 e).2)) r.below (Nat.le_refl _) (fun c o' e=>?_) (fun c o' j e i=>⟨rfl,?_⟩),hle,fun c o' e=>?_⟩
 ·simp only at e;split at e
  ·rename_i q;cases e;rw[q];exact hk
  ·exact r.fro c o' e
 ·have e':=D6 e;show(if j=k then some ob else φ.f j)=none;rw[if_neg (by rintro rfl;exact e'.1 (r.sep c b o' o j e'.2 hb i hi))];exact(r.gf c o' j e'.2 i).2.2
 ·split at e
  ·rename_i q;rw[q];exact .inr hgf.1
  ·exact .inl e
theorem Pq {F:Nat→Option Obj} {x sz n c:Nat} {cs:Array Value} {e:Nat} {fr:Nat × Nat} {vs:List Value} (hF:F x=some (.cells cs e fr)) (hn:vs.length=n) (hc:n≤c) (hs:∀u∈vs,u.cells.size=sz∧∀q∈u.cells.toList,q.oneCell'=true)
  (hcs:cs.toList.take (n*sz)=vs.flatMap fun u=>u.cells.toList):RowAt F sz n (fun i=>nth vs i) (.slice (some ⟨x,0,none⟩) n c):=by
 refine .inr ⟨x,0,c,rfl,hc,fun i hi=>?_⟩;have hm:nth vs i∈vs:=P2 (by omega);refine⟨(hs _ hm).1,cs,e,fr,hF,fun j u hj=>?_⟩
 have hj':j < sz:=by have:=(List.getElem?_eq_some_iff.1 hj).1;rw[Array.length_toList,(hs _ hm).1] at this;exact this
 have h1:(vs.map fun u=>u.cells.toList).flatten[i*sz+j]? = some u:=by
  rw[Qn (sz:=sz) (vs.map fun u=>u.cells.toList) i j (fun c hc=>by obtain⟨v,hv,rfl⟩:=List.mem_map.1 hc;rw[Array.length_toList];exact(hs v hv).1) (by rw[List.length_map];omega) hj']
  rw[show nth (vs.map fun u=>u.cells.toList) i=(nth vs i).cells.toList by
   have hi':i < vs.length:=by omega
   simp only[nth,List.getElem?_map,List.getElem?_eq_getElem hi',Option.map_some,Option.getD_some]]
  exact hj
 refine⟨?_,(hs _ hm).2 u (List.mem_of_getElem? hj)⟩;rw[←List.flatMap_def,←hcs] at h1;obtain⟨hlt,_⟩:=List.getElem?_eq_some_iff.1 h1;rw[List.getElem?_take_of_lt (by rw[List.length_take] at hlt;omega)] at h1;rw[Nat.zero_add,←Array.getElem?_toList];exact h1
theorem VRl.nth {φ:Phi} {es:List AV} {vs:List Value} (h:VRl φ es vs) {i:Nat} (hi:i < es.length):VR φ (es.getD i Bl) (Go.Proofs.YtglcebdfdehidaaGreatDoor.nth vs i):=by
 obtain⟨v,h1,h2⟩:=h.get (List.getElem?_eq_getElem hi);rw[List.getD_eq_getElem?_getD,List.getElem?_eq_getElem hi];simp only[Go.Proofs.YtglcebdfdehidaaGreatDoor.nth,h1,Option.getD_some];exact h2
section
variable (P : Program)
mutual
noncomputable def Dk (h:AH):AV→Option (AV × AH)
 |.own b=>match A3 b h with
  |some (.grow es _ sz)=>some (.row sz es.length (fun i=>es.getD i Bl),Cr b h)
  |_=>none
 |.sl b o n c op=>match A3 b h with
  |some (.row cs e)=>match tsz P e with
   |some sz=>bif Nat.beq o 0&&Nat.beq (n*sz) cs.length&&frzl cs&&ones cs&&Nat.blt 0 sz&&!op&&Nat.ble n c then some (.row sz n (fun i=>(Ge sz n cs).getD i Bl),Cr b h) else none
   |none=>none
  |_=>none
 |.ptr b o=>match A3 b h with
  |some (.row cs e)=>bif Nat.beq o 0&&frzl cs&&ones cs then some (.fp (.agg cs),Cr b h) else none
  |_=>none
 |.map b=>match A3 b h with
  |some (.mm g none _ sz)=>some (.smap (.slice none 0 0) (fun s => .row sz (g s).length (fun i=>(g s).getD i Bl)),Cr b h)
  |_=>none
 |.agg l=>match frzVl h l with
  |some (r,h')=>some (.agg r,h')
  |none=>none
 |.tup l=>match frzVl h l with
  |some (r,h')=>some (.tup r,h')
  |none=>none
 |.fn f fi cap=>bif frzl fi then (match frzVl h cap with
  |some (r,h')=>some (.fn f fi r,h')
  |none=>none) else none
 |a=>bif frz a then some (a,h) else none
noncomputable def frzVl (h:AH):List AV→Option (List AV × AH)
 |[]=>some ([],h)
 |a::l=>match Dk h a with
  |some (b,h1)=>match frzVl h1 l with
   |some (r,h2)=>some (b::r,h2)
   |none=>none
  |none=>none
end
end
theorem Ft {h:AH} {a:AV} (k:frz a=true):Ky h [a] [a] h:=fun B φ w vs r hv=>⟨φ.f,fun _ _ e=>e,fun _ _ e => .inl e,r,hv.fz (by simp only[frzl,k,Bool.and_true])⟩
theorem VRl.single_inv {φ:Phi} {a:AV} {vs:List Value} (h:VRl φ [a] vs):∃v,vs=[v]∧VR φ a v:=by
 obtain⟨v,vs',rfl,h1,h2⟩:=h.cons_inv;rw[h2.nil_inv];exact⟨v,rfl,h1⟩
theorem Dy {q:Bool} {α:Type} {x:Option α} {r:α} (h:(bif q then x else none)=some r):q=true∧x=some r:=by
 cases q
 ·cases h
 ·exact⟨rfl,h⟩
mutual
theorem Tm {P:Program}:∀{a:AV} {h h':AH} {r:AV},Dk P h a=some (r,h')→Ky h [a] [r] h'
 |.own b,h,h',r,hq=>by
  unfold Dk at hq;split at hq
  ·rename_i es e sz hb;cases hq;intro B φ w vs rl hv;obtain⟨v,rfl,hv1⟩:=hv.single_inv;clear hv;have hv:=hv1;simp only[VR] at hv;obtain⟨v0,us,q1,q2,q3,q4⟩:=rl.obj b _ hb;rw[hv.1] at q1;cases q1;have hlen:=q3.length;rcases q2.2 with⟨rfl,hn⟩|⟨g,cap,cur,rfl,hg1,hg2,hg3,hg4,hg5,hg6⟩
   ·refine⟨φ.f,fun _ _ e=>e,fun _ _ e => .inl e,rl.del b,.single ?_⟩;simp only[VR];exact⟨fun _=>undef,fun i hi=>by omega,.inl ⟨hn,.inl rfl⟩⟩
   ·have hi:img φ b (.grow es e sz) g:=by simp[img,hv.1,Value.ownBlock]
    obtain⟨k1,k2,k3⟩:=rl.still hb hi hg2;refine⟨_,k2,k3,k1,.single ?_⟩;simp only[VR];refine⟨fun i=>nth us i,fun i hi=>(q3.nth hi).mono (Jo k2),?_⟩;exact Pq (F:=fun i=>if i=g then some (Obj.cells cur e (0,0)) else φ.f i) (if_pos rfl) hlen hg3 q4 hg6
  ·cases hq
 |.sl b o n c op,h,h',r,hq=>by
  unfold Dk at hq;split at hq
  ·rename_i cs e hb;split at hq
   ·rename_i sz hsz;obtain⟨h3,h4⟩:=Dy hq;cases h4;simp only[Bool.and_eq_true,Bool.not_eq_true'] at h3;obtain⟨⟨⟨⟨⟨⟨c0,c1⟩,c2⟩,c3⟩,c4⟩,c5⟩,c6⟩:=h3;have:=Nat.eq_of_beq_eq_true c0;subst this;have c1':=Nat.eq_of_beq_eq_true c1
    have c4':0 < sz:=by simpa [Nat.blt_eq] using c4
    subst c5;intro B φ w vs rl hv;obtain⟨v,rfl,hv1⟩:=hv.single_inv;clear hv;have hv:=hv1;simp only[VR] at hv;obtain⟨y,κ,hφ,hv⟩:=hv
    have hv':v = .slice (some ⟨y,0,none⟩) n c:=by
     rcases hv with⟨q,_⟩|⟨_,hv⟩
     ·cases q
     ·exact hv
    subst hv';obtain⟨us,e1,e2⟩:=rl.rowAt hb hφ;have hl:=e2.length;have hones:=e2.ones c3;obtain⟨ws,k1,k2,k3,k4⟩:=Ue c4' n cs us.toList (VRl.fz e2 c2) (by omega) c3 hones
    have hi:img φ b (.row cs e) y:=by simp[img,hφ]
    obtain⟨g1,g2,g3⟩:=rl.still hb hi e1;refine⟨_,g2,g3,g1,.single ?_⟩;simp only[VR]
    have hcl:(Ge sz n cs).length=n:=by rw[←k1.length,k2]
    refine⟨fun i=>nth ws i,fun i hi=>(k1.nth (by omega)).mono (Jo g2),?_⟩;refine Pq (F:=fun i=>if i=y then some (Obj.cells us e (0,0)) else φ.f i) (if_pos rfl) k2 (Dx c6) (fun u hu=>⟨k3 u hu,fun q hq=>hones q (by rw[←k4];exact List.mem_flatMap.2 ⟨u,hu,hq⟩)⟩) ?_;rw[k4,List.take_of_length_le (by omega)]
   ·cases hq
  ·cases hq
 |.ptr b o,h,h',r,hq=>by
  unfold Dk at hq;split at hq
  ·rename_i cs e hb;obtain⟨h3,h4⟩:=Dy hq;cases h4;simp only[Bool.and_eq_true] at h3;obtain⟨⟨c0,c2⟩,c3⟩:=h3;have:=Nat.eq_of_beq_eq_true c0;subst this;intro B φ w vs rl hv;obtain⟨v,rfl,hv1⟩:=hv.single_inv;clear hv;have hv:=hv1;simp only[VR] at hv;obtain⟨y,κ,hφ,rfl⟩:=hv;obtain⟨us,e1,e2⟩:=rl.rowAt hb hφ;have hones:=e2.ones c3
   have hi:img φ b (.row cs e) y:=by simp[img,hφ]
   obtain⟨g1,g2,g3⟩:=rl.still hb hi e1;refine⟨_,g2,g3,g1,.single ?_⟩;simp only[VR];refine⟨y,0,.agg us,rfl,⟨us.toList,(VRl.fz e2 c2).mono (Jo g2),by simp⟩,us,e,(0,0),if_pos rfl,fun j u hj=>?_⟩;rw[Nat.zero_add];exact⟨by simpa [Value.cells] using hj,hones u (List.mem_of_getElem? hj)⟩
  ·cases hq
 |.agg l,h,h',r,hq=>by
  unfold Dk at hq;split at hq
  ·rename_i r' h1 hl;cases hq;intro B φ w vs rl hv;obtain⟨v,rfl,hv1⟩:=hv.single_inv;clear hv;have hv:=hv1;simp only[VR] at hv;obtain⟨us,hu,rfl⟩:=hv;obtain⟨F',f1,f2,f3,f4⟩:=frzVl_ok hl B φ w us rl hu;exact⟨F',f1,f2,f3,.single (by simp only[VR];exact⟨us,f4,rfl⟩)⟩
  ·cases hq
 |.tup l,h,h',r,hq=>by
  unfold Dk at hq;split at hq
  ·rename_i r' h1 hl;cases hq;intro B φ w vs rl hv;obtain⟨v,rfl,hv1⟩:=hv.single_inv;clear hv;have hv:=hv1;simp only[VR] at hv;obtain⟨us,hu,rfl⟩:=hv;obtain⟨F',f1,f2,f3,f4⟩:=frzVl_ok hl B φ w us rl hu;exact⟨F',f1,f2,f3,.single (by simp only[VR];exact⟨us,f4,rfl⟩)⟩
  ·cases hq
 |.fn f fi cap,h,h',r,hq=>by
  unfold Dk at hq;obtain⟨c1,hq⟩:=Dy hq;split at hq
  ·rename_i r' h1 hl;cases hq;intro B φ w vs rl hv;obtain⟨v,rfl,hv1⟩:=hv.single_inv;clear hv;have hv:=hv1;simp only[VR] at hv;obtain⟨vf,vc,e1,e2,rfl⟩:=hv;obtain⟨F',f1,f2,f3,f4⟩:=frzVl_ok hl B φ w vc rl e2;exact⟨F',f1,f2,f3,.single (by simp only[VR];exact⟨vf,vc,(VRl.fz e1 c1).mono (Jo f1),f4,rfl⟩)⟩
  ·cases hq
 |.bool _,h,h',r,hq=>by unfold Dk at hq;obtain⟨c1,hq⟩:=Dy hq;cases hq;exact Ft c1
 |.int _ _,h,h',r,hq=>by unfold Dk at hq;obtain⟨c1,hq⟩:=Dy hq;cases hq;exact Ft c1
 |.str _,h,h',r,hq=>by unfold Dk at hq;obtain⟨c1,hq⟩:=Dy hq;cases hq;exact Ft c1
 |.nilp,h,h',r,hq=>by unfold Dk at hq;obtain⟨c1,hq⟩:=Dy hq;cases hq;exact Ft c1
 |.nils,h,h',r,hq=>by unfold Dk at hq;obtain⟨c1,hq⟩:=Dy hq;cases hq;exact Ft c1
 |.sle,h,h',r,hq=>by unfold Dk at hq;obtain⟨c1,hq⟩:=Dy hq;cases hq;exact Ft c1
 |.map b,h,h',r,hq=>by
  unfold Dk at hq;split at hq
  ·rename_i g e sz hb;cases hq;intro B φ w vs rl hv;obtain⟨v,rfl,hv1⟩:=hv.single_inv;clear hv;have hv:=hv1;simp only[VR] at hv;obtain⟨x0,κ,e0,rfl⟩:=hv;obtain⟨x1,κ1,es,clk,m,h1,h2,h3,h4,h5,h6,h7,h8,h9⟩:=rl.obj b _ hb;rw[e0] at h1;cases h1
   haveI:∀k,Decidable (img φ b (.mm g none e sz) k):=fun k=>Classical.propDecidable _
   have hF:∀k,img φ b (.mm g none e sz) k→(if img φ b (.mm g none e sz) k then w.heap[k]? else φ.f k)=w.heap[k]? := fun k hk=>if_pos hk;have hxi:img φ b (.mm g none e sz) x0:=.inl (by rw[e0];rfl)
   have hle:∀k o,φ.f k=some o→(if img φ b (.mm g none e sz) k then w.heap[k]? else φ.f k)=some o:=fun k o hk=>by
    rw[if_neg (fun i=>by rw[(rl.gf b _ k hb i).2.2] at hk;cases hk)];exact hk
   refine⟨fun k=>if img φ b (.mm g none e sz) k then w.heap[k]? else φ.f k,hle,fun k o hk=>?_,?_,.single ?_⟩
   ·by_cases hi:img φ b (.mm g none e sz) k
    ·exact .inr (rl.gf b _ k hb hi).1
    ·simp only[if_neg hi] at hk;exact .inl hk
   ·refine(rl.del b).frame (fun c o' e1=>SameO.of_le (leF hle) (rl.obj c o' (D6 e1).2)) rl.below (Nat.le_refl _) (fun k o' hk=>?_) (fun c o' j e1 i1=>⟨rfl,?_⟩)
    ·by_cases hi:img φ b (.mm g none e sz) k
     ·simp only[if_pos hi] at hk;exact hk
     ·simp only[if_neg hi] at hk;exact rl.fro k o' hk
    ·have hni:¬img φ b (.mm g none e sz) j:=fun hi=>(D6 e1).1 (rl.sep c b o' _ j (D6 e1).2 hb i1 hi);simp only[if_neg hni];exact(rl.gf c o' j (D6 e1).2 i1).2.2
   ·simp only[VR];refine⟨x0,es,clk,m,rfl,?_,h3,fun s=>⟨fun u hu=>?_,fun hu=>?_⟩⟩
    ·show(if img φ b (.mm g none e sz) x0 then w.heap[x0]? else φ.f x0)=_;rw[hF x0 hxi];exact h2
    ·obtain⟨us,q2,q3,q4⟩:=h6 s u hu (by simp);have hlen:=q3.length;rcases q2.2 with⟨rfl,hn⟩|⟨gb,cap,cur,rfl,hg1,hg2,hg3,hg4,hg5,hg6⟩
     ·exact⟨fun _=>undef,fun i hi=>by omega,.inl ⟨hn,.inl rfl⟩⟩
     ·refine⟨fun i=>nth us i,fun i hi=>(q3.nth hi).mono ⟨fun _ _ e=>(by cases e),fun _ _ e=>(by cases e),hle⟩,?_⟩
      have hgi:img φ b (.mm g none e sz) gb:=by
       obtain⟨l,b1,b2⟩:=Sf (hole:=none) h4 hu (by simp);exact .inr ⟨l,by rw[h5,b1],_,b2,rfl⟩
      exact Pq (F:=fun k=>if img φ b (.mm g none e sz) k then w.heap[k]? else φ.f k) ((hF gb hgi).trans hg2) hlen hg3 q4 hg6
    ·have:=h7 s hu;exact⟨fun _=>undef,fun i hi=>by rw[this] at hi;simp at hi,.inl ⟨by rw[this];rfl,.inl rfl⟩⟩
  ·cases hq
 |.nilm,h,h',r,hq=>by unfold Dk at hq;obtain⟨c1,hq⟩:=Dy hq;cases hq;exact Ft c1
 |.nilf,h,h',r,hq=>by unfold Dk at hq;obtain⟨c1,hq⟩:=Dy hq;cases hq;exact Ft c1
 |.ifc _ _,h,h',r,hq=>by unfold Dk at hq;obtain⟨c1,hq⟩:=Dy hq;cases hq;exact Ft c1
 |.nili,h,h',r,hq=>by unfold Dk at hq;obtain⟨c1,hq⟩:=Dy hq;cases hq;exact Ft c1
 |.raw _,h,h',r,hq=>by unfold Dk at hq;obtain⟨c1,hq⟩:=Dy hq;cases hq;exact Ft c1
 |.row _ _ _,h,h',r,hq=>by unfold Dk at hq;obtain⟨c1,hq⟩:=Dy hq;cases hq;exact Ft c1
 |.fp _,h,h',r,hq=>by unfold Dk at hq;obtain⟨c1,hq⟩:=Dy hq;cases hq;exact Ft c1
 |.cond _ _,h,h',r,hq=>by unfold Dk at hq;obtain⟨c1,hq⟩:=Dy hq;cases hq;exact Ft c1
 |.op _ _,h,h',r,hq=>by unfold Dk at hq;obtain⟨c1,hq⟩:=Dy hq;cases hq;exact Ft c1
 |.smap _ _,h,h',r,hq=>by unfold Dk at hq;obtain⟨c1,hq⟩:=Dy hq;cases hq;exact Ft c1
 |.clo _,h,h',r,hq=>by unfold Dk at hq;obtain⟨c1,hq⟩:=Dy hq;cases hq;exact Ft c1
theorem frzVl_ok {P:Program}:∀{l:List AV} {h h':AH} {r:List AV},frzVl P h l=some (r,h')→Ky h l r h'
 |[],h,h',r,hq=>by cases hq;exact Y35
 |a::l,h,h',r,hq=>by
  unfold frzVl at hq;split at hq
  ·rename_i b h1 ha;split at hq
   ·rename_i r' h2 hl;cases hq;exact Y36 (Tm ha) (frzVl_ok hl)
   ·cases hq
  ·cases hq
end
def Same (r r':AV):Prop:=∀F v,VR (ofF F) r v→VR (ofF F) r' v
theorem Same.rfl' {r:AV}:Same r r:=fun _ _ h=>h
theorem Same.trans {a b c:AV} (h:Same a b) (k:Same b c):Same a c:=fun F v q=>k F v (h F v q)
theorem Same.row {sz n:Nat} {f g:Nat→AV} (h:∀i,i < n→Same (f i) (g i)):Same (.row sz n f) (.row sz n g):=by
 intro F v k;simp only[VR] at k ⊢;obtain⟨u,k1,k2⟩:=k;exact⟨u,fun i hi=>h i hi F _ (k1 i hi),k2⟩
def Ak {α:Type} [Inhabited α] (sz:Nat) (f:α→AV) (l:List α):AV:=.row sz l.length (fun i=>f (nth l i))
theorem Same.list {α:Type} [Inhabited α] {sz:Nat} {f:α→AV} {l:List α} {n:Nat} (hn:n=l.length):Same (.row sz n (fun i=>(l.map f).getD i Bl)) (Ak sz f l):=by
 subst hn;refine Same.row fun i hi=>?_
 have:(l.map f).getD i Bl=f (nth l i):=by
  simp only[List.getD_eq_getElem?_getD,List.getElem?_map,nth,List.getElem?_eq_getElem hi,Option.map_some,Option.getD_some]
 rw[this];exact Same.rfl'
theorem Same.grown {α:Type} [Inhabited α] {sz:Nat} {f:α→AV} {l:List α} {es:List AV} (h:es=l.map f):Same (.row sz es.length (fun i=>es.getD i Bl)) (Ak sz f l):=by
 subst h;exact Same.list (by rw[List.length_map])
theorem Same.nil {α:Type} [Inhabited α] {sz:Nat} {f:α→AV}:Same .nils (Ak sz f []):=by
 intro F v k;simp only[VR] at k;subst k;unfold Ak;simp only[VR];exact⟨fun _=>undef,fun i hi=>absurd hi (by simp),.inl ⟨rfl,.inl rfl⟩⟩
theorem Same.agg {l m:List AV} (h:∀F vs,VRl (ofF F) l vs→VRl (ofF F) m vs):Same (.agg l) (.agg m):=by
 intro F v k;simp only[VR] at k ⊢;obtain⟨vs,k1,k2⟩:=k;exact⟨vs,h F vs k1,k2⟩
theorem Same.tup {l m:List AV} (h:∀F vs,VRl (ofF F) l vs→VRl (ofF F) m vs):Same (.tup l) (.tup m):=by
 intro F v k;simp only[VR] at k ⊢;obtain⟨vs,k1,k2⟩:=k;exact⟨vs,h F vs k1,k2⟩
theorem SameL.cons {a b:AV} {l m:List AV} (h:Same a b) (k:∀F vs,VRl (ofF F) l vs→VRl (ofF F) m vs):∀F vs,VRl (ofF F) (a::l) vs→VRl (ofF F) (b::m) vs:=by
 intro F vs q;obtain⟨v,vs',rfl,q1,q2⟩:=q.cons_inv;exact .cons (h F v q1) (k F vs' q2)
theorem SameL.nil:∀F vs,VRl (ofF F) [] vs→VRl (ofF F) [] vs:=fun _ _ h=>h
theorem FnV.to {P:Program} {f:Nat} {al:List AV} {r r':AV} (h:FnV P f al r) (e:Same r r'):FnV P f al r':=fun F w vs h1 h2=>(h F w vs h1 h2).mono fun en w' hh=>by
 obtain⟨v,hv,hb,F',q1,q2,q3,q4⟩:=hh;exact⟨v,hv,hb,F',q1,q2,q3,e _ _ q4⟩
noncomputable def Hc:Nat→List AV→Fr
 |_,[]=>[]
 |i,a::l=>(i,a)::Hc (i+1) l
noncomputable def Ag:List AV→AV
 |[a]=>a
 |l => .tup l
theorem Ms {φ:Phi}:∀{al:List AV} {vs:List Value} {i t:Nat} {a:AV},VRl φ al vs→Ck t (Hc i al)=some a→i≤t∧VR φ a (vs.getD (t-i) undef)∧t-i < vs.length
 |[],_,_,_,_,_,h=>by cases h
 |b::l,vs,i,t,a,hv,h=>by
  obtain⟨v,vs',rfl,h1,h2⟩:=hv.cons_inv;simp only[Hc,Ck] at h;rcases D2 i t with⟨e,q⟩|⟨e,q⟩<;>rw[e] at h
  ·cases h;subst q;simp only[Nat.sub_self];exact⟨Nat.le_refl _,h1,by simp⟩
  ·obtain⟨k1,k2,k3⟩:=Ms h2 h;refine⟨by omega,?_,by simp only[List.length_cons];omega⟩;rw[show t-i=(t-(i+1))+1 by omega];exact k2
noncomputable def Ss:List Value→Value
 |[v]=>v
 |l => .tuple l.toArray
noncomputable def Q0q (P:Program) (x:St):ResultVar→Option AV
 |.tmp t=>Ck t x.s
 |.cell t ty=>match Ck t x.s with
  |some (.ptr b o)=>Mt P ty (.ptr b o) x.h
  |_=>none
noncomputable def H3 (P:Program):List ResultVar→St→Option (List AV)
 |[],_=>some []
 |r::l,x=>match Q0q P x r with
  |some a=>match H3 P l x with
   |some m=>some (a::m)
   |none=>none
  |none=>none
noncomputable def Nx (a:Act):ResultVar→Sem Value
 |.tmp t=>pure (a.tmps.getD t undef)
 |.cell x t=>do loadVar t (←asAddr (a.tmps.getD x undef))
theorem Ma {P:Program} {B:Bas} {φ:Phi} {n:Nat} {σ:Nat→Value} {w:World} {x:St} (hf:FRel φ n x.s σ) (r:Rel B φ x.h w):∀{l:List ResultVar} {m:List AV},H3 P l x=some m→∃vs,VRl φ m vs∧(l.mapM (m:=Sem) (Nx (mk n σ))).run P w = .ok vs w
 |[],_,h=>by cases h;exact⟨[],.nil,by simp[go_sem]⟩
 |y::l,_,h=>by
  unfold H3 at h;split at h
  ·rename_i b hb;split at h
   ·rename_i m hm;cases h;obtain⟨vs,h1,h2⟩:=Ma hf r hm
    cases y with
    |tmp t =>
     have hv:=hf t b hb;refine⟨sl n σ t::vs,.cons hv h1,?_⟩
     have hA:(Nx (mk n σ) (.tmp t)).run P w = .ok (sl n σ t) w:=by rw[←G7];rfl
     rw[List.mapM_cons,Sem.run_bind,hA,Result.andThen_ok,Sem.run_bind,h2];rfl
    |cell t ty =>
     unfold Q0q at hb;simp only at hb;split at hb
     ·rename_i c o hc;have hv:=hf t _ hc;obtain⟨v,g1,g2⟩:=Q3g (P:=P) hb hv r;refine⟨v::vs,.cons g2 h1,?_⟩;simp only[VR] at hv;obtain⟨z,κ,_,hv⟩:=hv
      have hl:(loadVar ty ⟨z,o,none⟩).run P w = .ok v w:=by
       rw[hv] at g1;simpa only [Instr.loadAt,Instr.sureAddr,Sem.run_bind,Sem.run_pure,Result.andThen_ok] using g1
      have hA:(Nx (mk n σ) (.cell t ty)).run P w = .ok v w:=by simp only[Nx,G7,hv,asAddr,Sem.run_bind,Sem.run_pure,Result.andThen_ok,hl]
      rw[List.mapM_cons,Sem.run_bind,hA,Result.andThen_ok,Sem.run_bind,h2];rfl
     ·cases hb
   ·cases h
  ·cases h
theorem Nw {P:Program} {fn:Func} {a:Act} {rs:List ResultVar} {vs:List Value} {w:World} (hr:fn.results=rs.toArray) (h:(rs.mapM (m:=Sem) (Nx a)).run P w = .ok vs w):(results fn a.tmps).run P w = .ok (Ss vs) w:=by
 unfold results;rw[Array.mapM_eq_mapM_toList];simp only[Sem.run_bind,Sem.run_map]
 have h3:∀g:ResultVar→Sem Value,(∀x,g x=Nx a x)→(fn.results.toList.mapM (m:=Sem) g).run P w = .ok vs w:=by
  intro g hg;rw[funext hg,hr];exact h
 rw[h3 _ (fun x=>by cases x<;>rfl)]
 match vs with
 |[]=>rfl
 |[v]=>rfl
 |v::u::l=>rfl
def Ps (P:Program) (rs:List ResultVar) (r:AV):Exit→St→Prop:=fun e x=>(e = .ret∨e = .normal)∧∃al rl h',H3 P rs x=some al∧frzVl P x.h al=some (rl,h')∧Same (Ag rl) r
theorem X2k {P:Program} {rs:List ResultVar} {r:AV} {x:St} {al rl:List AV} {h':AH} {e:Exit} (he:e = .ret∨e = .normal) (h1:H3 P rs x=some al) (h2:frzVl P x.h al=some (rl,h')) (h3:Same (Ag rl) r):Ps P rs r e x:=⟨he,al,rl,h',h1,h2,h3⟩
theorem Pz {φ:Phi} {al:List AV} {vs:List Value} (h:VRl φ al vs):VR φ (Ag al) (Ss vs):=by
 match al,h with
 |[],h=>rw[h.nil_inv];simp only[Ag,Ss,VR];exact⟨[],.nil,rfl⟩
 |[a],h=>obtain⟨v,rfl,hv⟩:=h.single_inv;exact hv
 |a::b::l,h =>
  obtain⟨v,vs',rfl,h1,h2⟩:=h.cons_inv;obtain⟨u,vs'',rfl,h3,h4⟩:=h2.cons_inv;simp only[Ag,Ss,VR];exact⟨_,.cons h1 (.cons h3 h4),rfl⟩
theorem Ax {P:Program} {f:FuncId} {fn:Func} {c:Code} {n:Nat} {al:List AV} {r:AV} (rs:List ResultVar) (hf:P.funcs[f]? = some fn) (hn:fn.ntmps=n)
  (h:∀(B:Bas) (F:Cx),F.lo=0→SW P n c B F (Ps P rs r) ⟨Hc 0 al,[],0⟩) (hb:fn.body=some c:=by exact rfl) (hr:fn.results=rs.toArray:=by exact rfl) (ha:Nat.ble al.length n=true:=by exact rfl):FnV P f al r:=by
 intro F w vs hF hv;have hlen:=hv.length;have hal:al.length≤n:=Nat.le_of_ble_eq_true ha;refine D1 hf hb hn ?_ (by rw[hlen];exact ha)
 have hx:Holds ⟨w,fun k=>k < w.heap.size,fun _ h=>h⟩ ⟨F,fun _=>none,0,fun _ _ e=>by cases e⟩ n ⟨Hc 0 al,[],0⟩ (ofF F) (Fk vs) w:=by
  refine⟨fun t a e=>?_,⟨⟨rfl,rfl,rfl,Nat.le_refl _,fun _ _=>rfl⟩,hF,fun b o e=>(by cases e),fun b b' o o' k e=>(by cases e),fun b o k e=>(by cases e)⟩,fun b _=>⟨rfl,rfl⟩,fun b o e=>e,fun b o e => .inl e,fun b o e=>(by cases e)⟩;obtain⟨h1,h2,h3⟩:=Ms hv e;rw[Nat.sub_zero] at h2 h3
  have ht:Nat.blt t n=true:=by simp only[Nat.blt_eq];omega
  simp only[sl,ht,cond_true,Fk];exact h2
 refine W_mono (h _ _ rfl _ _ _ hx) ?_;rintro e σ' w' ⟨y,φ',hy,he,al',rl,h',k1,k2,k3⟩;obtain⟨vs',hvs,hrun⟩:=Ma (P:=P) hy.fr hy.rel k1;obtain⟨F',f1,f2,f3,f4⟩:=frzVl_ok k2 _ φ' w' _ hy.rel hvs
 have fin:I7 P n fn (Ret fun v w''=>Below w.heap.size w w''∧∃F',(∀b o,F b=some o→F' b=some o)∧Fro F' w''∧(∀b o,F' b=some o→F b=some o∨w.heap.size≤b)∧VR (ofF F') r v) .ret σ' w':=by
  refine⟨_,Nw hr hrun,_,rfl,⟨hy.rel.below.os,hy.rel.below.tape,hy.rel.below.output,hy.rel.below.size,hy.rel.below.block⟩,F',fun b o q=>f1 b o (hy.old b o q),f3.fro,fun b o q=>((f2 b o q).elim (hy.new b o) .inr).imp id Nat.le_of_not_lt,k3 _ _ (Pz f4)⟩
 rcases he with rfl|rfl
 ·exact fin
 ·exact fin
noncomputable def Tc (n:Nat):Fr→Bool
 |[]=>true
 |(_,a)::r=>low n a&&Tc n r
noncomputable def Wl (n:Nat):AO→Bool
 |.row c _=>lowl n c
 |.gh _ _ _ _ k=>Nat.blt k n
 |_=>true
noncomputable def Di (n:Nat):AH→Option AH
 |[]=>some []
 |(k,o)::r=>match Di n r with
  |some r'=>bif Nat.blt k n then (bif Wl n o then some ((k,o)::r') else none) else some r'
  |none=>none
theorem Kq {n:Nat}:∀{h h':AH},Di n h=some h'→∀b o,A3 b h'=some o→b < n∧A3 b h=some o∧Wl n o=true
 |[],_,e,b,o,k=>by cases e;cases k
 |(c,x)::r,_,e,b,o,k=>by
  unfold Di at e;split at e
  ·rename_i r' hr
   cases hlt:Nat.blt c n with
   |true =>
    rw[hlt,cond_true] at e;obtain⟨e1,e2⟩:=Dy e;cases e2;simp only[A3] at k ⊢;rcases D2 c b with⟨q,q'⟩|⟨q,q'⟩<;>rw[q] at k ⊢
    ·cases k;subst q';exact⟨by simpa [Nat.blt_eq] using hlt,rfl,e1⟩
    ·exact Kq hr b o k
   |false =>
    rw[hlt,cond_false] at e;cases e;obtain⟨h1,h2,h3⟩:=Kq hr b o k
    have hcn : ¬ c < n := by intro h; have : Nat.blt c n = true := by simpa [Nat.blt_eq] using h
                             rw[this] at hlt;cases hlt
    refine⟨h1,?_,h3⟩;simp only[A3];rw[I8 (by omega)];exact h2
  ·cases e
theorem Q3c {n:Nat}:∀{s:Fr},Tc n s=true→∀t a,Ck t s=some a→low n a=true
 |[],_,_,_,k=>by cases k
 |(u,b)::r,h,t,a,k=>by
  simp only[Tc,Bool.and_eq_true] at h;simp only[Ck] at k;rcases D2 u t with⟨q,_⟩|⟨q,_⟩<;>rw[q] at k
  ·cases k;exact h.1
  ·exact Q3c h.2 t a k
noncomputable def gcS (ts:List Nat) (n:Nat) (x:St):Option St:=match Hi ts x.s with
 |some s=>match Di n x.h with
  |some h=>bif Tc n s then some ⟨s,h,n⟩ else none
  |none=>none
 |none=>none
section
variable {P : Program} {B : Bas} {w : World} {F : Cx} {n : Nat} {φ : Phi} {σ : Nat → Value} {K : Exit → St → Prop} {x y : St}
theorem Rel.cut {h h':AH} {m:Nat} (r:Rel B φ h w) (k:Di m h=some h'):Rel B (φ.cut m) h' w:=by
 have hs:∀b o,A3 b h'=some o→SameO φ (φ.cut m) b o:=by
  intro b o e;obtain⟨h1,h2,h3⟩:=Kq k b o e;have hm:(φ.cut m) b=φ b:=if_pos h1;have hss:(φ.cut m).s b=φ.s b:=if_pos h1
  cases o with
  |row c e=>exact⟨hm,fun vs q=>VRl.cut q h3⟩
  |grow es e sz=>exact⟨hss,fun _ _ q=>q⟩
  |map es clk=>exact⟨hm,fun _ _ q=>q⟩
  |siter t p=>exact hm
  |mm g ho e sz=>exact⟨hm,hss,fun _ _ q=>q⟩
  |gh es e sz o j=>exact⟨hss,if_pos (show j < m by simpa [Wl,Nat.blt_eq] using h3),fun _ _ q=>q⟩
 refine⟨r.below,r.fro,fun b o e=>(r.obj b o (Kq k b o e).2.1).imp (hs b o e) (fun _ _=>rfl),fun b b' o o' j e e' i i'=>?_,fun b o j e i=>?_⟩
 ·rw[(hs b o e).img] at i;rw[(hs b' o' e').img] at i';exact r.sep b b' o o' j (Kq k b o e).2.1 (Kq k b' o' e').2.1 i i'
 ·rw[(hs b o e).img] at i;exact r.gf b o j (Kq k b o e).2.1 i
theorem Holds.gc {ts:List Nat} {m:Nat} (h:Holds B F n x φ σ w) (hlo:F.lo≤m) (k:gcS ts m x=some y):Holds B F n y (φ.cut m) σ w:=by
 unfold gcS at k;split at k
 ·rename_i s hs;split at k
  ·rename_i hh hc;obtain⟨k1,k2⟩:=Dy k;cases k2;exact⟨fun t a e=>((h.sel hs).fr t a e).cut (Q3c k1 t a e),h.rel.cut hc,fun b (hb:m≤b)=>⟨if_neg (by omega),if_neg (by omega)⟩,h.old,h.new,fun b o e=>(if_pos (Nat.lt_of_lt_of_le (F.hm b o e) hlo)).trans (h.base b o e)⟩
  ·cases k
 ·cases k
theorem Re {c:Code} (ts:List Nat) (m:Nat) (hlo:F.lo≤m) (k:gcS ts m x=some y) (h:SW P n c B F K y):SW P n c B F K x:=fun φ σ w hx=>h _ _ _ (hx.gc hlo k)
noncomputable def Ry (e sz t:Nat) (x:St):Option St:=match Ck t x.s with
 |some a=>match Pj e sz a x.h x.nx with
  |some (b,h,nx)=>some ⟨Gi t (.own b) x.s,h,nx⟩
  |none=>none
 |none=>none
theorem VR.slice {a:AV} {v:Value} (h:VR φ a v) (ha:(match a with | .own _=>true | .nils=>true | .sl _ _ _ _ _=>true|_=>false)=true):∃p q r,v = .slice p q r:=by
 cases a<;>simp only[Bool.false_eq_true] at ha
 ·simp only[VR] at h;obtain⟨_,_,_,⟨_,_,rfl⟩|⟨_,rfl⟩⟩:=h<;>exact⟨_,_,_,rfl⟩
 ·simp only[VR] at h;subst h;exact⟨_,_,_,rfl⟩
 ·simp only[VR] at h;obtain⟨_,a,b,c,rfl⟩:=h;exact⟨_,_,_,rfl⟩
theorem Holds.thaw {e sz t:Nat} (h:Holds B F n x φ σ w) (hsz:Nat.blt 0 sz=true) (k:Ry e sz t x=some y):∃φ',Holds B F n y φ' σ w:=by
 unfold Ry at k;split at k
 ·rename_i a ha;split at k
  ·rename_i b h1 nx1 hb;cases k;have hv:=h.fr _ _ ha;obtain⟨φ1,hle,r1,d1,hs1,hf1⟩:=Rx hb (by simpa [Nat.blt_eq] using hsz) hv h.rel h.dom
   have hsl:∃p q r,sl n σ t = .slice p q r:=by
    refine hv.slice ?_;unfold Pj at hb
    split at hb<;>first|rfl|cases hb
   refine⟨φ1,fun u c e=>?_,r1,d1,fun b o q=>by rw[hf1];exact h.old b o q,fun b o q=>by rw[hf1] at q;exact h.new b o q,fun b o q=>hle.m _ _ (h.base b o q)⟩;by_cases hu:u=t
   ·subst hu;rw[P8] at e;cases e;simp only[VR];exact⟨hs1,hsl⟩
   ·rw[P9 _ hu] at e;exact(h.fr u c e).mono hle
  ·cases k
 ·cases k
theorem Lx {c:Code} (e sz t:Nat) (hsz:Nat.blt 0 sz=true) (k:Ry e sz t x=some y) (h:SW P n c B F K y):SW P n c B F K x:=fun φ σ w hx=>by
 obtain⟨φ',hh⟩:=hx.thaw hsz k;exact h _ _ _ hh
end
def WG (P:Program) (n:Nat) (ops:Array Oper) (Q:(Nat→Value)→World→Prop) (H:World→Prop) (fuel:Nat) (listed:Array Bool) (σ:Nat→Value) (w:World):Prop :=
 wpAnyH P .any ops (fun e a w=>e = .normal∧∃σ,a=mk n σ∧Q σ w) H fuel listed (mk n σ) w
section
variable {P : Program} {n : Nat} {σ : Nat → Value} {w : World}
theorem Y4a {Q:Exit→(Nat→Value)→World→Prop} {id:Nat} {l:List Oper} (H:World→Prop) (hm:P.follows .mixedOrders=true)
  (h:WG P n l.toArray (Q .normal) H l.length (Array.replicate l.length false) σ (w.drewN 1)):W P n (.region id l.toArray true) Q σ w:=by
 unfold W;refine wp_mono (wp_region_any hm (wpAny_of_held _ _ _ _ h)) ?_;rintro e a w ⟨rfl,σ',ha,hq⟩;exact⟨σ',ha,hq⟩
variable {ops : Array Oper} {Q : (Nat → Value) → World → Prop} {fuel : Nat} {listed : Array Bool} {H : World → Prop}
theorem Y4y (hS:H w) (i:Nat) {o:Oper} {v:Value} (hi:ops[i]? = some o) (hs:Region.noSelect ops=true) (hf:Region.free .any ops listed i=true) (hr:(Region.ready .any ops listed).contains i=true)
  (hg:gOk ops n σ o.guard=true) (h:∀w',H w'→(execOp (ev n σ) o).run P w' = .ok (.value v) w') (next:WG P n ops Q H fuel (listed.setIfInBounds i true) (Bn σ o.dst v) w):WG P n ops Q H (fuel+1) listed σ w:=by
 unfold WG;refine wpAnyH_take hi hs hf hr (fun c a w h=>by cases h.1) (.inl ⟨by rw[wanted_mk];exact hg,fun w' hw'=>by rw[mk_eval];exact h w' hw'⟩) hS ?_;rw[mk_put];exact next
theorem Y4z (hS:H w) (i:Nat) {o:Oper} (hi:ops[i]? = some o) (hs:Region.noSelect ops=true) (hf:Region.free .any ops listed i=true) (hr:(Region.ready .any ops listed).contains i=true)
  (hg:gOk ops n σ o.guard=false) (next:WG P n ops Q H fuel (listed.setIfInBounds i true) (Bn σ o.dst undef) w):WG P n ops Q H (fuel+1) listed σ w:=by
 unfold WG;refine wpAnyH_take hi hs hf hr (fun c a w h=>by cases h.1) (.inr ⟨by rw[wanted_mk];exact hg,rfl⟩) hS ?_;rw[mk_put];exact next
theorem Y40 (hr:Region.ready .any ops listed=[]) (h:Q σ w):WG P n ops Q H fuel listed σ w:=by
 unfold WG;exact wpAnyH_done hr ⟨rfl,σ,rfl,h⟩ fuel
theorem Q8o (i:Nat) {o:Oper} (hr:Region.ready .any ops listed=[i]) (hi:ops[i]? = some o)
  (h:WO P n ops [o] (fun e σ' w'=>e = .normal∧H w'∧WG P n ops Q H fuel (listed.setIfInBounds i true) σ' w') σ w):WG P n ops Q H (fuel+1) listed σ w:=by
 unfold WG;refine wpAnyH_all hr (by simp) fun j hj=>?_
 obtain rfl:j=i:=by simpa using hj
 unfold WO wpList at h;unfold wpOp;simp only[hi]
 have ho:¬LetsOut (lift n fun e σ' w'=>e = .normal∧H w'∧WG P n ops Q H fuel (listed.setIfInBounds j true) σ' w'):=by
  rintro⟨a,w,σ',_,h,_⟩;cases h
 have hk:∀a w',wpList P ops (lift n fun e σ' w'=>e = .normal∧H w'∧WG P n ops Q H fuel (listed.setIfInBounds j true) σ' w') [] a w' →
   (H w'∧wpAnyH P .any ops (fun e a w=>e = .normal∧∃σ,a=mk n σ∧Q σ w) H fuel (listed.setIfInBounds j true) a w'):=by
  rintro a w' ⟨σ',rfl,_,hb,hx⟩;exact⟨hb,hx⟩
 split at h
 ·rename_i hw;rw[if_pos hw];rcases h with h|⟨_,h⟩
  ·exact .inl (Ro hk (fun c a w hc=>by obtain⟨_,_,hc,_⟩:=hc;cases hc) ho h)
  ·exact absurd h ho
 ·rename_i hw;rw[if_neg hw];exact hk _ _ h
end
attribute [irreducible] WG
noncomputable def Ol (P:Program) (E:Bool) (eA:Operand→Option AV) (o:Oper):PC:=match Pu P eA o with
 |some r=>some r
 |none=>match o.op with
  |.load t x=>match eA x with
   |some (.fp a)=>bif E then (match Mt P t (.fp a) [] with
    |some r=>some (r,none)
    |none=>none) else none
   |_=>none
  |_=>none
noncomputable def Ns (P:Program) (E:Bool) (n:Nat) (ops:Array Oper) (lz:List Nat) (o:Oper) (x:St):Option (St × Option Prop):=match o.guard with
 |none=>match Ol P E (evA x.s) o with
  |some (a,C)=>match B3 n o.dst a x.s with
   |some s'=>some (⟨s',x.h,x.nx⟩,C)
   |none=>none
  |none=>none
 |some (j,want)=>match Jq ops.toList j with
  |some t=>match Qk want (Ck t x.s) with
   |some q=>bif inL o.dst lz then (match Ol P E (Jd (Lb o.op) (evA x.s)) o with
     |some (a,C)=>match B3 n o.dst (.cond q a) x.s with
      |some s'=>some (⟨s',x.h,x.nx⟩,match Kv (E7 (evA x.s) (Lb o.op)) C with
       |some p=>some (q=true→p)
       |none=>none)
      |none=>none
     |none=>none) else (bif q then (match Ol P E (evA x.s) o with
     |some (a,C)=>match B3 n o.dst a x.s with
      |some s'=>some (⟨s',x.h,x.nx⟩,C)
      |none=>none
     |none=>none) else match B3 n o.dst (.tup []) x.s with
      |some s'=>some (⟨s',x.h,x.nx⟩,none)
      |none=>none)
   |_=>none
  |none=>none
def SG (P:Program) (n:Nat) (ops:Array Oper) (B:Bas) (F:Cx) (K:St→Prop) (F0:Cx) (E:Bool) (fuel:Nat) (listed:Array Bool) (x:St):Prop :=
 ∀φ σ w,Holds B F0 n x φ σ w→(E=true→φ.f=F0.f)→WG P n ops (fun σ w=>∃y φ,Holds B F0 n y φ σ w∧K y) (Fro F0.f) fuel listed σ w
section
variable {P : Program} {B : Bas} {w : World} {F F0 : Cx} {n : Nat} {φ : Phi} {σ : Nat → Value} {K : Exit → St → Prop} {KK : St → Prop} {x : St} {E : Bool} {ops : Array Oper} {fuel : Nat} {listed : Array Bool}
theorem Holds.hold (h:Holds B F0 n x φ σ w):Fro F0.f w:=fun b o e=>h.rel.fro b o (h.old b o e)
theorem Holds.drew (h:Holds B F n x φ σ w):Holds B F n x φ σ (w.drewN 1):=⟨h.fr,h.rel.drew,h.dom,h.old,h.new,h.base⟩
def X4k (k:(Nat→Value)→World→Prop):Exit→(Nat→Value)→World→Prop
 |.normal,σ,w=>k σ w
 |_,_,_=>False
theorem E5 {id:Nat} {l:List Oper} (hm:P.follows .mixedOrders=true) (h:∀F0:Cx,F0.lo=F.lo→SG P n l.toArray B F (K .normal) F0 true l.length (Array.replicate l.length false) x):SW P n (.region id l.toArray true) B F K x:=by
 intro φ σ w hx
 have hh:Holds B ⟨φ.f,F.m,F.lo,F.hm⟩ n x φ σ (w.drewN 1):=⟨hx.drew.fr,hx.drew.rel,hx.dom,fun _ _ e=>e,fun _ _ e => .inl e,hx.base⟩
 have hg:=h ⟨φ.f,F.m,F.lo,F.hm⟩ rfl φ σ _ hh (fun _=>rfl);refine W_mono (Y4a (Q:=X4k fun σ w=>∃y φ',Holds B ⟨φ.f,F.m,F.lo,F.hm⟩ n y φ' σ w∧K .normal y) (Fro φ.f) hm hg) ?_;intro e σ' w' he
 cases e with
 |normal =>
  obtain⟨y,φ',hy,hk⟩:=he;exact⟨y,φ',⟨hy.fr,hy.rel,hy.dom,fun b o q=>hy.old b o (hx.old b o q),fun b o q=>(hy.new b o q).elim (hx.new b o) .inr,hy.base⟩,hk⟩
 |_=>exact he.elim
theorem X52 {h:AH} {t:Nat} {a r:AV} {v:Value} (hl:Mt P t (.fp a) h=some r) (hx:VR φ (.fp a) v):∃u,VR φ r u∧∀w,Fro φ.f w→(Instr.loadAt t v).run P w = .ok u w:=by
 have agg:∀{w:World} {b o n:Nat} {us:List Value},Hz P t=some true→tsz P t=some n→us.length=n→(∀j v,us[j]? = some v→w.cell? ⟨b,o+j,none⟩=some v)→(Instr.loadAt t (.pointer (some ⟨b,o,none⟩))).run P w = .ok (.agg us.toArray) w:=by
  intro w b o n us ha hn hl hc;have:=run_loadCells_list (P:=P) w ⟨b,o,none⟩ us (fun j v hj=>by rw[Fb];exact hc j v hj);rw[hl] at this;simp only[Instr.loadAt,Instr.sureAddr,Sem.run_bind,Sem.run_pure,Result.andThen_ok,loadVar,Kw ha,if_true,C4 hn,this]
 have sca:∀{w:World} {b o:Nat} {v:Value},Hz P t=some false→w.cell? ⟨b,o,none⟩=some v→(Instr.loadAt t (.pointer (some ⟨b,o,none⟩))).run P w = .ok v w:=by
  intro w b o v ha hc;simp[Instr.loadAt,Instr.sureAddr,loadVar,Kw ha,hc,go_sem]
 simp only[VR] at hx;obtain⟨b,o,u,rfl,hu,hlie⟩:=hx;unfold Mt at hl;split at hl
 ·rename_i e;cases e
 ·rename_i l e;cases e;simp only[VR] at hu;obtain⟨vs,hvs,rfl⟩:=hu
  have hcs:(Value.agg vs.toArray).cells.toList=vs:=by simp[Value.cells]
  rw[hcs] at hlie;split at hl
  ·rename_i ha;split at hl
   ·rename_i n hn;obtain⟨h3,h4⟩:=Eo (f:=none) hl;cases h4;have hlen:=hvs.length;exact⟨_,by simp only[VR];exact⟨vs,hvs.mono (Phi.le_fz φ),rfl⟩,fun w hw=>agg ha hn (us:=vs) (by rw[hlen,Nat.eq_of_beq_eq_true h3]) (fun j v hj=>Ki hw hlie hj)⟩
   ·cases hl
  ·rename_i ha;split at hl
   ·rename_i a l';cases hl;obtain⟨v,vs',rfl,h1,_⟩:=hvs.cons_inv;exact⟨v,h1.mono (Phi.le_fz φ),fun w hw=>sca ha (by have:=Ki hw hlie (j:=0) rfl;simpa using this)⟩
   ·cases hl
  ·cases hl
 ·rename_i a' hna e;cases e;split at hl
  ·rename_i ha;obtain⟨h3,h4⟩:=Eo (f:=none) hl;cases h4;have h1:=(hu.one h3).2;rw[h1] at hlie;exact⟨u,hu.mono (Phi.le_fz φ),fun w hw=>sca ha (by have:=Ki hw hlie (j:=0) rfl;simpa using this)⟩
  ·cases hl
 ·cases hl
theorem X7z {eA:Operand→Option AV} (hev:EVR φ eA (ev n σ)) (hE:E=true→φ.f=F0.f) {o:Oper} {a:AV} {C:Option Prop} (ho:Ol P E eA o=some (a,C)) (hC:Bk C):∃v,(∀w,Fro F0.f w→(execOp (ev n σ) o).run P w = .ok (.value v) w)∧VR φ a v:=by
 unfold Ol at ho;split at ho
 ·rename_i q hq;cases ho;obtain⟨v,h1,h2⟩:=V3 hev hq hC;exact⟨v,fun w _=>h1 w,h2⟩
 ·obtain⟨dst,op,ty,ps,af,g⟩:=o;split at ho
  ·rename_i t x' hop;simp only at hop;subst hop;split at ho
   ·rename_i a' ha;obtain⟨hE1,ho⟩:=Dy ho;split at ho
    ·rename_i q hq;cases ho;obtain⟨u,k1,k2⟩:=X52 hq (hev _ _ ha);exact⟨u,fun w hw=>by simp only[execOp,Sem.run_bind,k2 w (by rw[hE hE1];exact hw),Result.andThen_ok,Sem.run_pure],k1⟩
    ·cases ho
   ·cases ho
  ·cases ho
theorem Q82 (i:Nat) (lz:List Nat) {o:Oper} {y:St} {C:Option Prop} (hi:ops[i]? = some o) (hs:Region.noSelect ops=true) (hf:Region.free .any ops listed i=true) (hr:(Region.ready .any ops listed).contains i=true)
  (h:Ns P E n ops lz o x=some (y,C)) (hC:Bk C) (next:SG P n ops B F KK F0 E fuel (listed.setIfInBounds i true) y):SG P n ops B F KK F0 E (fuel+1) listed x:=by
 intro φ σ w hx hE
 have take:∀{eA:Operand→Option AV} {a b:AV} {C:Option Prop} {s':Fr},EVR φ eA (ev n σ)→gOk ops n σ o.guard=true→Ol P E eA o=some (a,C)→Bk C→B3 n o.dst b x.s=some s'→(∀v,VR φ a v→VR φ b v)→y=⟨s',x.h,x.nx⟩ →
   WG P n ops (fun σ w=>∃y φ,Holds B F0 n y φ σ w∧KK y) (Fro F0.f) (fuel+1) listed σ w:=by
  intro eA a b C s' hev hg hfr hC hp hab hy;subst hy;obtain⟨v,h1,h2⟩:=X7z hev hE hfr hC;exact Y4y hx.hold i hi hs hf hr hg h1 (next φ _ w ⟨hx.fr.put hp (hab v h2),hx.rel,hx.dom,hx.old,hx.new,hx.base⟩ hE)
 have pass:∀{b:AV} {s':Fr},gOk ops n σ o.guard=false→B3 n o.dst b x.s=some s'→VR φ b undef→y=⟨s',x.h,x.nx⟩→WG P n ops (fun σ w=>∃y φ,Holds B F0 n y φ σ w∧KK y) (Fro F0.f) (fuel+1) listed σ w:=by
  intro b s' hg hp hb hy;subst hy;exact Y4z hx.hold i hi hs hf hr hg (next φ _ w ⟨hx.fr.put hp hb,hx.rel,hx.dom,hx.old,hx.new,hx.base⟩ hE)
 unfold Ns at h
 cases hgd:o.guard with
 |none =>
  rw[hgd] at h;simp only at h;split at h
  ·rename_i a C' hfr;split at h
   ·rename_i s' hp;cases h;exact take hx.fr.ev (by rw[hgd];rfl) hfr hC hp (fun _ k=>k) rfl
   ·cases h
  ·cases h
 |some g =>
  obtain⟨j,want⟩:=g;rw[hgd] at h;simp only at h;split at h
  ·rename_i t ht;split at h
   ·rename_i q hq
    have hgk:gOk ops n σ o.guard=q:=by rw[hgd];simp only[gOk,ht];exact W1 hx.fr hq
    cases hlz:inL o.dst lz with
    |true =>
     rw[hlz,cond_true] at h;split at h
     ·rename_i a C' hro;split at h
      ·rename_i s' hp;cases h
       cases hw:q with
       |false=>exact pass (by rw[hgk,hw]) hp (by rw[hw];exact K0) rfl
       |true =>
        have hC':Bk (Kv (E7 (evA x.s) (Lb o.op)) C'):=by
         revert hC
         cases Kv (E7 (evA x.s) (Lb o.op)) C' with
         |none=>intro _;trivial
         |some p=>intro h;exact h hw
        obtain⟨c1,c2⟩:=Q5 hC';exact take (Nn hx.fr c1) (by rw[hgk,hw]) hro c2 hp (fun v k=>by rw[hw];exact Nf k) rfl
      ·cases h
     ·cases h
    |false =>
     rw[hlz,cond_false] at h
     cases hw:q with
     |true =>
      rw[hw,cond_true] at h;split at h
      ·rename_i a C' hfr;split at h
       ·rename_i s' hp;cases h;exact take hx.fr.ev (by rw[hgk,hw]) hfr hC hp (fun _ k=>k) rfl
       ·cases h
      ·cases h
     |false =>
      rw[hw,cond_false] at h;split at h
      ·rename_i s' hp;cases h;exact pass (by rw[hgk,hw]) hp L4 rfl
      ·cases h
   ·cases h
  ·cases h
theorem Y5x (i:Nat) (lz:List Nat) {o:Oper} {y:St} {C:Option Prop} (hr:Region.ready .any ops listed=[i]) (hi:ops[i]? = some o) (h:K7 P n ops lz o x=some (y,C)) (hC:Bk C)
  (next:SG P n ops B F KK F0 E fuel (listed.setIfInBounds i true) y):SG P n ops B F KK F0 E (fuel+1) listed x:=by
 intro φ σ w hx hE;exact Q8o i hr hi (Vd hx h hC fun φ' σ' w' hh e=>A0 ⟨rfl,hh.hold,next φ' σ' w' hh (fun q=>e.trans (hE q))⟩)
theorem Q83 (i:Nat) {f:FuncId} {ar:Array Operand} {ts:Array TypeId} {ty:TypeId} {ps:String} {dst:Option Tmp} {af:Array Edge} {g:Option (Nat × Bool)} {al:List AV} {r:AV} {s':Fr}
  (hr:Region.ready .any ops listed=[i]) (hi:ops[i]? = some ⟨dst,.call { callee:=.value (.func f),args:=ar,argTypes:=ts },ty,ps,af,g⟩)
  (hg:Cp ops x.s g=true) (he:Ai P f) (ha:Dw (evA x.s) ar.toList=some al) (hz:frzl al=true) (hf:FnV P f al r) (hp:B3 n dst r x.s=some s')
  (next:SG P n ops B F KK F0 false fuel (listed.setIfInBounds i true) ⟨s',x.h,x.nx⟩):SG P n ops B F KK F0 E (fuel+1) listed x:=by
 intro φ σ w hx hE;refine Q8o i hr hi ?_;have hv:=(E4 hx.fr.ev ha).fz hz;refine Cv (Cs hx.fr hg) he (hf φ.f w _ hx.rel.fro hv) ?_;rintro v w' ⟨hb,F',h1,h2,h3,h4⟩;have hh:=hx.called hb h1 h2 h3
 have hh':Holds B F0 n ⟨s',x.h,x.nx⟩ ⟨φ.m,φ.s,F'⟩ (Bn σ dst v) w':=⟨hh.fr.put hp (h4.mono (Phi.le_fz ⟨φ.m,φ.s,F'⟩)),hh.rel,hh.dom,hh.old,hh.new,hh.base⟩
 exact A0 ⟨rfl,hh'.hold,next _ _ _ hh' (fun q=>by cases q)⟩
theorem Ek (hr:Region.ready .any ops listed=[]) (h:KK x):SG P n ops B F KK F0 E fuel listed x:=fun φ σ w hx _=>Y40 hr ⟨x,φ,hx,h⟩
theorem Yu {s:Fr} (ts:List Nat) (h:Hi ts x.s=some s) (k:SG P n ops B F KK F0 E fuel listed ⟨s,x.h,x.nx⟩):SG P n ops B F KK F0 E fuel listed x:=fun φ σ w hx hE=>k φ σ w (hx.sel h) hE
theorem Y45 {c:Code} (I:Nat→St→Prop) (ts:List Nat) (m:Nat) {y:St} (g:Nat) (hlo:F.lo≤m) (k:gcS ts m x=some y) (h0:I g y)
  (round:∀g y,I g y→SW P n c B F (K8 (fun z=>∃z',gcS ts m z=some z'∧∃g',g' < g∧I g' z') K) y):SW P n (.loop c) B F K x:=by
 refine Re ts m hlo k ?_;intro φ σ w hx;refine M9 (fun g σ w=>∃y φ,Holds B F n y φ σ w∧I g y) ⟨g,y,φ,hx,h0⟩ ?_;rintro g σ w ⟨y,φ,hy,hI⟩;refine W_mono (round g y hI φ σ w hy) ?_;rintro e σ' w' ⟨z,φ',h1,h2⟩
 cases e with
 |normal=>obtain⟨z',hz,g',hg,hI'⟩:=h2;exact⟨g',hg,z',_,h1.gc hlo hz,hI'⟩
 |_=>exact⟨z,φ',h1,h2⟩
theorem hold {p:Prop} (h:p):Bk (some p):=h
theorem Ap:Bk none:=trivial
theorem Dz {o:Operand} {c d:Code} (h:SW P n c B F K x) (hq:evA x.s o=some (.bool true):=by kernel_rfl):SW P n (.cond o c d) B F K x:=A7 (fun _=>h) (fun e=>by cases e) hq
theorem Cy {o:Operand} {c d:Code} (h:SW P n d B F K x) (hq:evA x.s o=some (.bool false):=by kernel_rfl):SW P n (.cond o c d) B F K x:=A7 (fun e=>by cases e) (fun _=>h) hq
theorem C7 {o:Operand} {c d:Code} {p:Prop} [Decidable p] (ht:¬p→SW P n c B F K x) (hf:p→SW P n d B F K x) (hq:evA x.s o=some (.bool (!decide p)):=by kernel_rfl):SW P n (.cond o c d) B F K x :=
 A7 (fun h=>ht (by simpa using h)) (fun h=>hf (by simpa using h)) hq
theorem Same.of_eq {a b:AV} (h:a=b):Same a b:=by subst h;exact Same.rfl'
end
attribute [irreducible] SG
noncomputable def Iy (ops:Array Oper) (s:Fr):Option (Nat × Bool)→Option Bool
 |none=>some true
 |some (j,want)=>match Jq ops.toList j with
  |some t=>Qk want (Ck t s)
  |none=>none
def Imp (a a':AV):Prop:=∀φ v,VR φ a v→VR φ a' v
theorem Imp.same {a b:AV} (h:Imp a b):Same a b:=fun F v=>h (ofF F) v
theorem Imp.row {sz n:Nat} {f g:Nat→AV} (h:∀i,i < n→Imp (f i) (g i)):Imp (.row sz n f) (.row sz n g):=by
 intro φ v k;simp only[VR] at k ⊢;obtain⟨u,k1,k2⟩:=k;exact⟨u,fun i hi=>h i hi φ.fz _ (k1 i hi),k2⟩
theorem Imp.of_eq {a b:AV} (h:a=b):Imp a b:=by subst h;exact fun _ _ k=>k
section
variable {P : Program} {B : Bas} {w : World} {F F0 : Cx} {n : Nat} {φ : Phi} {σ : Nat → Value} {K : Exit → St → Prop} {x : St} {ops : Array Oper}
theorem Mu {g:Option (Nat × Bool)} {q:Bool} (h:FRel φ n x.s σ) (k:Iy ops x.s g=some q):gOk ops n σ g=q:=by
 cases g with
 |none=>cases k;rfl
 |some g =>
  obtain⟨j,want⟩:=g;unfold Iy at k;unfold gOk;simp only at k ⊢;split at k
  ·rename_i t ht;rw[ht];exact W1 h k
  ·cases k
theorem Y5p {rest:List Oper} {f:FuncId} {ar:Array Operand} {ts:Array TypeId} {ty:TypeId} {ps:String} {dst:Option Tmp} {af:Array Edge} {g:Option (Nat × Bool)} {al:List AV} {r:AV} {s':Fr} {q:Bool}
  (hg:Iy ops x.s g=some q) (he:Ai P f) (ha:Dw (Jd ar.toList (evA x.s)) ar.toList=some al) (hn:q=true→Bk (E7 (evA x.s) ar.toList)) (hz:frzl al=true) (hf:q=true→FnV P f al r) (hp:B3 n dst (.cond q r) x.s=some s')
  (next:SO P n ops rest B F K ⟨s',x.h,x.nx⟩):SO P n ops (⟨dst,.call { callee:=.value (.func f),args:=ar,argTypes:=ts },ty,ps,af,g⟩::rest) B F K x:=by
 intro φ σ w hx;have hgk:=Mu hx.fr hg
 cases q with
 |false=>exact D9 hgk (next φ _ w ⟨hx.fr.put hp K0,hx.rel,hx.dom,hx.old,hx.new,hx.base⟩)
 |true =>
  have hv:=(E4 (Nn hx.fr (hn rfl)) ha).fz hz;refine Cv hgk he (hf rfl φ.f w _ hx.rel.fro hv) ?_;rintro v w' ⟨hb,F',h1,h2,h3,h4⟩;have hh:=hx.called hb h1 h2 h3;exact next _ _ _ ⟨hh.fr.put hp (Nf (h4.mono (Phi.le_fz ⟨φ.m,φ.s,F'⟩))),hh.rel,hh.dom,hh.old,hh.new,hh.base⟩
theorem Holds.conv {t:Nat} {a b:AV} (h:Holds B F n x φ σ w) (k:Ck t x.s=some a) (i:Imp a b):Holds B F n ⟨Gi t b x.s,x.h,x.nx⟩ φ σ w:=by
 refine⟨fun u c e=>?_,h.rel,h.dom,h.old,h.new,h.base⟩;by_cases hu:u=t
 ·subst hu;rw[P8] at e;cases e;exact i φ _ (h.fr u a k)
 ·rw[P9 _ hu] at e;exact h.fr u c e
theorem Rf {c:Code} (t:Nat) {a:AV} (b:AV) (k:Ck t x.s=some a) (i:Imp a b) (h:SW P n c B F K ⟨Gi t b x.s,x.h,x.nx⟩):SW P n c B F K x:=fun φ σ w hx=>h φ σ w (hx.conv k i)
theorem J4 {l:List Oper} (t:Nat) {a:AV} (b:AV) (k:Ck t x.s=some a) (i:Imp a b) (h:SO P n ops l B F K ⟨Gi t b x.s,x.h,x.nx⟩):SO P n ops l B F K x:=fun φ σ w hx=>h φ σ w (hx.conv k i)
end
noncomputable def Tq (P:Program) (E:Bool) (n:Nat) (ops:Array Oper) (lz:List Nat):List Nat→Array Bool→St→Option (St × Option Prop × Array Bool)
 |[],listed,x=>some (x,none,listed)
 |i::l,listed,x=>match ops[i]? with
  |some o=>bif Region.free .any ops listed i&&(Region.ready .any ops listed).contains i then (match Ns P E n ops lz o x with
   |some (y,C)=>match Tq P E n ops lz l (listed.setIfInBounds i true) y with
    |some (z,D,L)=>some (z,Kv C D,L)
    |none=>none
   |none=>none) else none
  |none=>none
noncomputable def Ok (P:Program) (E:Bool) (n:Nat) (ops:Array Oper) (lz is ts:List Nat) (listed:Array Bool) (x:St):Option (St × Option Prop × Array Bool):=match Tq P E n ops lz is listed x with
 |some (y,C,L)=>match Hi ts y.s with
  |some s=>some (⟨s,y.h,y.nx⟩,C,L)
  |none=>none
 |none=>none
section
variable {P : Program} {B : Bas} {w : World} {F F0 : Cx} {n : Nat} {KK : St → Prop} {E : Bool} {ops : Array Oper}
theorem Q81 {lz:List Nat} {fuel:Nat} (hs:Region.noSelect ops=true):∀{is:List Nat} {listed L:Array Bool} {x y:St} {C:Option Prop},Tq P E n ops lz is listed x=some (y,C,L)→Bk C→SG P n ops B F KK F0 E fuel L y→SG P n ops B F KK F0 E (fuel+is.length) listed x
 |[],listed,L,x,y,C,h,hC,next=>by cases h;exact next
 |i::l,listed,L,x,y,C,h,hC,next=>by
  unfold Tq at h;split at h
  ·rename_i o ho;obtain⟨h1,h2⟩:=Dy h;simp only[Bool.and_eq_true] at h1;split at h2
   ·rename_i z C1 hz;split at h2
    ·rename_i u D L' hu;cases h2;obtain⟨c1,c2⟩:=Q5 hC;exact Q82 i lz ho hs h1.1 h1.2 hz c1 (Q81 hs hu c2 next)
    ·cases h2
   ·cases h2
  ·cases h
theorem Y5z {lz:List Nat} {fuel fuel':Nat} (is ts:List Nat) {listed L:Array Bool} {x y:St} {C:Option Prop} (hs:Region.noSelect ops=true) (h:Ok P E n ops lz is ts listed x=some (y,C,L)) (hf:fuel'=fuel+is.length) (hC:Bk C) (next:SG P n ops B F KK F0 E fuel L y):SG P n ops B F KK F0 E fuel' listed x:=by
 subst hf;unfold Ok at h;split at h
 ·rename_i z C' L' hz;split at h
  ·rename_i s hsel;cases h;exact Q81 hs hz hC (Yu ts hsel next)
  ·cases h
 ·cases h
end
abbrev Dc (l:List (List UInt8)):AV:=Ak 1 AV.str l
abbrev Bi (l:List Int):AV:=Ak 1 (AV.int .i64) l
theorem FnV.eq {P:Program} {f:Nat} {al al':List AV} {r r':AV} (h:FnV P f al r) (ha:al=al') (hr:r=r'):FnV P f al' r':=by subst ha hr;exact h
def Gf (φ:Phi) (h:AH) (w:World):Bas:=⟨w,fun k=>k < w.heap.size∧∀i o,A3 i h=some o→¬img φ i o k,fun _ h=>h.1⟩
def Gz (P:Program) (f:Nat) (al:List AV) (h:AH) (nx:Nat) (r:AV) (h':AH):Prop:=∀(B0:Bas) (φ:Phi) (w:World) (vs:List Value),Rel B0 φ h w→VRl φ al vs→Calls P f vs.toArray w (Ret fun v w'=>∃φ',
 Rel (Gf φ h w) φ' h' w'∧VR φ' r v∧(∀b x,b < nx→φ b=some x→φ' b=some x)∧(∀b o,φ.f b=some o→φ'.f b=some o)∧∀b o,φ'.f b=some o→φ.f b=some o∨¬(Gf φ h w).old b)
def Si (P:Program) (rs:List ResultVar) (r:AV) (h':AH) (nx:Nat):Exit→St→Prop:=fun e x=>(e = .ret∨e = .normal)∧∃al,H3 P rs x=some al∧Ag al=r∧Di nx x.h=some h'
theorem E6 {P:Program} {rs:List ResultVar} {r:AV} {h':AH} {nx:Nat} {x:St} {al:List AV} {e:Exit} (he:e = .ret∨e = .normal) (h1:H3 P rs x=some al) (h2:Ag al=r) (h3:Di nx x.h=some h'):Si P rs r h' nx e x:=⟨he,al,h1,h2,h3⟩
theorem Nj {P:Program} {f:FuncId} {fn:Func} {c:Code} {n nx:Nat} {al:List AV} {r:AV} {h h':AH} (rs:List ResultVar) (hf:P.funcs[f]? = some fn) (hb:fn.body=some c) (hn:fn.ntmps=n) (hr:fn.results=rs.toArray) (ha:Nat.ble al.length n=true)
  (hH:Di nx h=some h) (hal:lowl nx al=true) (hrl:low nx r=true) (k:∀(B:Bas) (F:Cx),F.lo=nx→SW P n c B F (Si P rs r h' nx) ⟨Hc 0 al,h,nx⟩):Gz P f al h nx r h':=by
 intro B0 φ w vs hrel hv;have hlen:=hv.length;have hal':al.length≤n:=Nat.le_of_ble_eq_true ha;have hcut:=hrel.cut hH
 have himg:∀b o,A3 b h=some o→img (φ.cut nx) b o=img φ b o:=by
  intro b o e;have:=(Kq hH b o e).1;funext k
  cases o<;>simp only[img]<;>first|rw[show(φ.cut nx) b=φ b from if_pos this,show(φ.cut nx).s b=φ.s b from if_pos this]|rw[show(φ.cut nx) b=φ b from if_pos this]|rw[show(φ.cut nx).s b=φ.s b from if_pos this]
 have hcm:∀b x,(if b < nx then φ b else none)=some x→b < nx:=by
  intro b x e;by_cases hb:b < nx
  ·exact hb
  ·rw[if_neg hb] at e;cases e
 have hx:Holds (Gf φ h w) ⟨φ.f,fun b=>if b < nx then φ b else none,nx,hcm⟩ n ⟨Hc 0 al,h,nx⟩ (φ.cut nx) (Fk vs) w:=by
  refine⟨fun t a e=>?_,⟨⟨rfl,rfl,rfl,Nat.le_refl _,fun _ _=>rfl⟩,hcut.fro,hcut.obj,hcut.sep,fun b o k e i=>?_⟩,fun b hb=>⟨if_neg (by simpa using hb),if_neg (by simpa using hb)⟩,fun b o e=>e,fun b o e => .inl e,fun b x e=>e⟩
  ·obtain⟨h1,h2,h3⟩:=Ms (hv.cut hal) e;rw[Nat.sub_zero] at h2 h3
   have ht:Nat.blt t n=true:=by simp only[Nat.blt_eq];omega
   simp only[sl,ht,cond_true,Fk];exact h2
  ·have:=hcut.gf b o k e i;exact⟨fun q=>q.2 b o e (by rw[←himg b o e];exact i),this.2⟩
 refine D1 hf hb hn ?_ (by rw[hlen];exact ha);refine W_mono (k _ _ rfl _ _ _ hx) ?_;rintro e σ' w' ⟨y,φ1,hy,he,al',k1,k2,k3⟩;obtain⟨vs',hvs,hrun⟩:=Ma (P:=P) hy.fr hy.rel k1
 have fin:I7 P n fn (Ret fun v w''=>∃φ',Rel (Gf φ h w) φ' h' w''∧VR φ' r v∧(∀b x,b < nx→φ b=some x→φ' b=some x)∧(∀b o,φ.f b=some o→φ'.f b=some o)∧∀b o,φ'.f b=some o→φ.f b=some o∨¬(Gf φ h w).old b) .ret σ' w':=by
  refine⟨_,Nw hr hrun,_,rfl,φ1.cut nx,hy.rel.cut k3,?_,fun b x hb q=>(if_pos hb).trans (hy.base b x ((if_pos hb).trans q)),hy.old,hy.new⟩;have:=Pz hvs;rw[k2] at this;exact this.cut hrl
 rcases he with rfl|rfl
 ·exact fin
 ·exact fin
noncomputable def idx (b:Nat):List Nat→Option Nat
 |[]=>none
 |x::r=>bif Nat.beq x b then some 0 else match idx b r with
  |some i=>some (i+1)
  |none=>none
theorem Li:∀{ks:List Nat} {b i:Nat},idx b ks=some i→ks[i]? = some b
 |[],_,_,h=>by cases h
 |x::r,b,i,h=>by
  unfold idx at h;rcases D2 x b with⟨e,q⟩|⟨e,q⟩<;>rw[e] at h
  ·cases h;rw[q];rfl
  ·rw[cond_false] at h;split at h
   ·rename_i j hj;cases h;simpa using Li hj
   ·cases h
theorem Ti:∀{ks:List Nat} {b:Nat},idx b ks=none→∀i:Nat,ks[i]? ≠ some b
 |[],_,_,i=>by simp
 |x::r,b,h,i=>by
  unfold idx at h;rcases D2 x b with⟨e,q⟩|⟨e,q⟩<;>rw[e] at h
  ·cases h
  ·rw[cond_false] at h;split at h
   ·cases h
   ·rename_i hj
    cases i with
    |zero=>simp;exact q
    |succ i=>simpa using Ti hj i
noncomputable def Gm:List Nat→Bool
 |[]=>true
 |x::r=>(match idx x r with|some _=>false|none=>true)&&Gm r
theorem Q2l:∀{ks:List Nat},Gm ks=true→∀{i j b:Nat},ks[i]? = some b→ks[j]? = some b→i=j
 |[],_,_,_,_,h,_=>by simp at h
 |x::r,h,i,j,b,h1,h2=>by
  simp only[Gm,Bool.and_eq_true] at h
  have hx:idx x r=none:=by
   have:=h.1
   cases hq:idx x r with
   |none=>rfl
   |some _=>rw[hq] at this;cases this
  cases i with
  |zero =>
   cases j with
   |zero=>rfl
   |succ j=>simp at h1 h2;subst h1;exact absurd h2 (Ti hx j)
  |succ i =>
   cases j with
   |zero=>simp at h1 h2;subst h2;exact absurd h1 (Ti hx i)
   |succ j=>simp at h1 h2;rw[Q2l h.2 h1 h2]
theorem Qi {ks:List Nat} (hn:Gm ks=true) {i b:Nat} (h:ks[i]? = some b):idx b ks=some i:=by
 cases hq:idx b ks with
 |none=>exact absurd h (Ti hq i)
 |some j=>rw[Q2l hn (Li hq) h]
def Phi.pull (φ:Phi) (ks:List Nat):Phi:=⟨fun i=>(ks[i]?).bind fun b=>φ b,fun i=>(ks[i]?).bind fun b=>φ.s b,φ.f⟩
mutual
noncomputable def Fy (ks:List Nat):AV→Option AV
 |.ptr b o=>match idx b ks with|some i=>some (.ptr i o)|none=>none
 |.sl b o n c op=>match idx b ks with|some i=>some (.sl i o n c op)|none=>none
 |.map b=>match idx b ks with|some i=>some (.map i)|none=>none
 |.own b=>match idx b ks with|some i=>some (.own i)|none=>none
 |.op b o=>match idx b ks with|some i=>some (.op i o)|none=>none
 |.fn f fi cap=>match renL ks fi,renL ks cap with|some x,some y=>some (.fn f x y)|_,_=>none
 |.ifc t a=>match Fy ks a with|some x=>some (.ifc t x)|none=>none
 |.agg l=>match renL ks l with|some x=>some (.agg x)|none=>none
 |.tup l=>match renL ks l with|some x=>some (.tup x)|none=>none
 |.cond q a=>match Fy ks a with|some x=>some (.cond q x)|none=>none
 |a=>some a
noncomputable def renL (ks:List Nat):List AV→Option (List AV)
 |[]=>some []
 |a::l=>match Fy ks a,renL ks l with|some x,some y=>some (x::y)|_,_=>none
end
theorem X2m {ks:List Nat}:∀{a x:AV},Fy ks a=some x→Qf x=Qf a:=by
 intro a x h
 cases a<;>unfold Fy at h<;>repeat' split at h
 all_goals first|cases h;rfl|cases h
theorem Jk {φ:Phi} {ks:List Nat} {b i:Nat} (h:idx b ks=some i):(φ.pull ks) i=φ b:=by simp[Phi.pull,Li h]
theorem Pv {φ:Phi} {ks:List Nat} {b i:Nat} (h:idx b ks=some i):(φ.pull ks).s i=φ.s b:=by simp[Phi.pull,Li h]
mutual
theorem VR.pull {ks:List Nat}:∀{a a':AV} {φ:Phi} {v:Value},Fy ks a=some a'→VR φ a v→VR (φ.pull ks) a' v
 |.bool _,_,_,_,h,k=>by cases h;exact k
 |.int _ _,_,_,_,h,k=>by cases h;exact k
 |.str _,_,_,_,h,k=>by cases h;exact k
 |.ptr b o,_,_,_,h,k=>by
  unfold Fy at h;split at h
  ·rename_i i hi;cases h;simp only[VR] at k ⊢;rw[Jk hi];exact k
  ·cases h
 |.nilp,_,_,_,h,k=>by cases h;exact k
 |.sl b o n c op,_,_,_,h,k=>by
  unfold Fy at h;split at h
  ·rename_i i hi;cases h;simp only[VR] at k ⊢;rw[Jk hi];exact k
  ·cases h
 |.nils,_,_,_,h,k=>by cases h;exact k
 |.sle,_,_,_,h,k=>by cases h;exact k
 |.map b,_,_,_,h,k=>by
  unfold Fy at h;split at h
  ·rename_i i hi;cases h;simp only[VR] at k ⊢;rw[Jk hi];exact k
  ·cases h
 |.nilm,_,_,_,h,k=>by cases h;exact k
 |.fn f fi cap,_,_,_,h,k=>by
  unfold Fy at h;split at h
  ·rename_i x y hx hy;cases h;simp only[VR] at k ⊢;obtain⟨a,b,e1,e2,r⟩:=k;exact⟨a,b,VRl.pull hx e1,VRl.pull hy e2,r⟩
  ·cases h
 |.nilf,_,_,_,h,k=>by cases h;exact k
 |.ifc t a,_,_,_,h,k=>by
  unfold Fy at h;split at h
  ·rename_i x hx;cases h;simp only[VR] at k ⊢;obtain⟨u,e,r⟩:=k;exact⟨u,VR.pull hx e,r⟩
  ·cases h
 |.nili,_,_,_,h,k=>by cases h;exact k
 |.agg l,_,_,_,h,k=>by
  unfold Fy at h;split at h
  ·rename_i x hx;cases h;simp only[VR] at k ⊢;obtain⟨u,e,r⟩:=k;exact⟨u,VRl.pull hx e,r⟩
  ·cases h
 |.tup l,_,_,_,h,k=>by
  unfold Fy at h;split at h
  ·rename_i x hx;cases h;simp only[VR] at k ⊢;obtain⟨u,e,r⟩:=k;exact⟨u,VRl.pull hx e,r⟩
  ·cases h
 |.raw _,_,_,_,h,k=>by cases h;exact k
 |.row _ _ _,_,_,_,h,k=>by cases h;simp only[VR] at k ⊢;exact k
 |.fp _,_,_,_,h,k=>by cases h;simp only[VR] at k ⊢;exact k
 |.own b,_,_,_,h,k=>by
  unfold Fy at h;split at h
  ·rename_i i hi;cases h;simp only[VR] at k ⊢;rw[Pv hi];exact k
  ·cases h
 |.op b _,_,_,_,h,k=>by
  unfold Fy at h;split at h
  ·rename_i i hi;cases h;simp only[VR] at k ⊢;rw[Pv hi];exact k
  ·cases h
 |.smap _ _,_,_,_,h,k=>by cases h;simp only[VR] at k ⊢;exact k
 |.clo _,_,_,_,h,k=>by cases h;simp only[VR] at k ⊢;exact k
 |.cond q a,_,_,_,h,k=>by
  unfold Fy at h;split at h
  ·rename_i x hx;cases h;simp only[VR] at k ⊢;exact⟨fun q=>VR.pull hx (k.1 q),fun e=>k.2 ((X2m hx).symm.trans e)⟩
  ·cases h
theorem VRl.pull {ks:List Nat}:∀{l l':List AV} {φ:Phi} {vs:List Value},renL ks l=some l'→VRl φ l vs→VRl (φ.pull ks) l' vs
 |[],_,_,_,h,k=>by cases h;exact k
 |a::l,_,φ,_,h,k=>by
  unfold renL at h;split at h
  ·rename_i x y hx hy;cases h;obtain⟨v,vs',rfl,h1,h2⟩:=k.cons_inv;exact .cons (VR.pull hx h1) (VRl.pull hy h2)
  ·cases h
end
noncomputable def Md (ks:List Nat):AO→Option AO
 |.row c e=>match renL ks c with|some x=>some (.row x e)|none=>none
 |.gh _ _ _ _ _=>none
 |o=>some o
noncomputable def J8 (ks:List Nat) (h:AH):Nat→List Nat→Option AH
 |_,[]=>some []
 |i,b::l=>match A3 b h with
  |some o=>match Md ks o,J8 ks h (i+1) l with
   |some o',some r=>some ((i,o')::r)
   |_,_=>none
  |none=>none
theorem R2 {ks:List Nat} {h:AH}:∀{l:List Nat} {i:Nat} {r:AH},J8 ks h i l=some r→∀j o,A3 j r=some o→i≤j∧∃b o0,l[j-i]? = some b∧A3 b h=some o0∧Md ks o0=some o
 |[],_,_,e,j,o,k=>by cases e;cases k
 |b::l,i,r,e,j,o,k=>by
  unfold J8 at e;split at e
  ·rename_i o0 ho;split at e
   ·rename_i o' r' h1 h2;cases e;simp only[A3] at k;rcases D2 i j with⟨q,q'⟩|⟨q,q'⟩<;>rw[q] at k
    ·cases k;subst q';exact⟨Nat.le_refl _,b,o0,by simp,ho,h1⟩
    ·obtain⟨g1,b',o1,g2,g3,g4⟩:=R2 h2 j o k;exact⟨by omega,b',o1,by rw[show j-i=(j-(i+1))+1 by omega];simpa using g2,g3,g4⟩
   ·cases e
  ·cases e
theorem Oi {φ:Phi} {ks:List Nat} {b i:Nat} (h:idx b ks=some i) {o o':AO} (ho:Md ks o=some o'):img (φ.pull ks) i o'=img φ b o:=by
 funext k;cases o<;>simp only[Md] at ho
 case row c e =>
  split at ho
  ·cases ho;simp only[img,Jk h]
  ·cases ho
 all_goals (cases ho<;>simp only[img,Jk h,Pv h])
theorem Rel.pull {B:Bas} {φ:Phi} {h H:AH} {w:World} {ks:List Nat} (r:Rel B φ h w) (hn:Gm ks=true) (k:J8 ks h 0 ks=some H):Rel B (φ.pull ks) H w:=by
 have get:∀i o,A3 i H=some o→∃b o0,idx b ks=some i∧A3 b h=some o0∧Md ks o0=some o:=by
  intro i o e;obtain⟨_,b,o0,g1,g2,g3⟩:=R2 k i o e;exact⟨b,o0,Qi hn (by simpa using g1),g2,g3⟩
 refine⟨r.below,r.fro,fun i o e=>?_,fun i j o o' q e e' i1 i2=>?_,fun i o q e i1=>?_⟩
 ·obtain⟨b,o0,g1,g2,g3⟩:=get i o e;have ha:=r.obj b o0 g2;cases o0<;>simp only[Md] at g3
  case row c e' =>
   split at g3
   ·rename_i x hx;cases g3;obtain⟨y,κ,vs,a1,a2,a3⟩:=ha;exact⟨y,κ,vs,by rw[Jk g1];exact a1,a2,a3.pull hx⟩
   ·cases g3
  case grow es e' sz=>cases g3;obtain⟨v,vs,a1,a2⟩:=ha;exact⟨v,vs,by rw[Pv g1];exact a1,a2⟩
  case map es clk=>cases g3;obtain⟨x,κ,l,a1,a2⟩:=ha;exact⟨x,κ,l,by rw[Jk g1];exact a1,a2⟩
  case siter s p=>cases g3;obtain⟨x,κ,a1,a2⟩:=ha;exact⟨x,κ,by rw[Jk g1];exact a1,a2⟩
  case mm g ho e' sz=>cases g3;obtain⟨x,κ,es,clk,m,a1,a2,a3,a4,a5,a6⟩:=ha;exact⟨x,κ,es,clk,m,by rw[Jk g1];exact a1,a2,a3,a4,by rw[Pv g1];exact a5,a6⟩
  case gh=>cases g3
 ·obtain⟨b,o0,g1,g2,g3⟩:=get i o e;obtain⟨b',o1,g4,g5,g6⟩:=get j o' e';rw[Oi g1 g3] at i1;rw[Oi g4 g6] at i2;have:=r.sep b b' o0 o1 q g2 g5 i1 i2;subst this;rw[g1] at g4;exact Option.some.inj g4
 ·obtain⟨b,o0,g1,g2,g3⟩:=get i o e;rw[Oi g1 g3] at i1;exact r.gf b o0 q g2 i1
mutual
noncomputable def unA (ks:List Nat):AV→Option AV
 |.ptr i o=>match ks[i]? with|some b=>some (.ptr b o)|none=>none
 |.sl i o n c op=>match ks[i]? with|some b=>some (.sl b o n c op)|none=>none
 |.map i=>match ks[i]? with|some b=>some (.map b)|none=>none
 |.own i=>match ks[i]? with|some b=>some (.own b)|none=>none
 |.op i o=>match ks[i]? with|some b=>some (.op b o)|none=>none
 |.fn f fi cap=>match unL ks fi,unL ks cap with|some x,some y=>some (.fn f x y)|_,_=>none
 |.ifc t a=>match unA ks a with|some x=>some (.ifc t x)|none=>none
 |.agg l=>match unL ks l with|some x=>some (.agg x)|none=>none
 |.tup l=>match unL ks l with|some x=>some (.tup x)|none=>none
 |.cond q a=>match unA ks a with|some x=>some (.cond q x)|none=>none
 |a=>some a
noncomputable def unL (ks:List Nat):List AV→Option (List AV)
 |[]=>some []
 |a::l=>match unA ks a,unL ks l with|some x,some y=>some (x::y)|_,_=>none
end
noncomputable def Phi.push (φ φ':Phi) (ks:List Nat):Phi:=⟨fun b=>match idx b ks with|some i=>φ' i|none=>φ b,fun b=>match idx b ks with|some i=>φ'.s i|none=>φ.s b,φ'.f⟩
theorem Q99 {ks:List Nat}:∀{a x:AV},unA ks a=some x→Qf x=Qf a:=by
 intro a x h
 cases a<;>unfold unA at h<;>repeat' split at h
 all_goals first|cases h;rfl|cases h
theorem Ke {φ φ':Phi} {ks:List Nat} (hn:Gm ks=true) {i b:Nat} (h:ks[i]? = some b):(φ.push φ' ks) b=φ' i:=by simp[Phi.push,Qi hn h]
theorem Pt {φ φ':Phi} {ks:List Nat} (hn:Gm ks=true) {i b:Nat} (h:ks[i]? = some b):(φ.push φ' ks).s b=φ'.s i:=by simp[Phi.push,Qi hn h]
mutual
theorem VR.push {ks:List Nat} (hn:Gm ks=true) {φ φ':Phi}:∀{a a':AV} {v:Value},unA ks a=some a'→VR φ' a v→VR (φ.push φ' ks) a' v
 |.bool _,_,_,h,k=>by cases h;exact k
 |.int _ _,_,_,h,k=>by cases h;exact k
 |.str _,_,_,h,k=>by cases h;exact k
 |.ptr b o,_,_,h,k=>by
  unfold unA at h;split at h
  ·rename_i i hi;cases h;simp only[VR] at k ⊢;rw[Ke hn hi];exact k
  ·cases h
 |.nilp,_,_,h,k=>by cases h;exact k
 |.sl b o n c op,_,_,h,k=>by
  unfold unA at h;split at h
  ·rename_i i hi;cases h;simp only[VR] at k ⊢;rw[Ke hn hi];exact k
  ·cases h
 |.nils,_,_,h,k=>by cases h;exact k
 |.sle,_,_,h,k=>by cases h;exact k
 |.map b,_,_,h,k=>by
  unfold unA at h;split at h
  ·rename_i i hi;cases h;simp only[VR] at k ⊢;rw[Ke hn hi];exact k
  ·cases h
 |.nilm,_,_,h,k=>by cases h;exact k
 |.fn f fi cap,_,_,h,k=>by
  unfold unA at h;split at h
  ·rename_i x y hx hy;cases h;simp only[VR] at k ⊢;obtain⟨a,b,e1,e2,r⟩:=k;exact⟨a,b,VRl.push hn hx e1,VRl.push hn hy e2,r⟩
  ·cases h
 |.nilf,_,_,h,k=>by cases h;exact k
 |.ifc t a,_,_,h,k=>by
  unfold unA at h;split at h
  ·rename_i x hx;cases h;simp only[VR] at k ⊢;obtain⟨u,e,r⟩:=k;exact⟨u,VR.push hn hx e,r⟩
  ·cases h
 |.nili,_,_,h,k=>by cases h;exact k
 |.agg l,_,_,h,k=>by
  unfold unA at h;split at h
  ·rename_i x hx;cases h;simp only[VR] at k ⊢;obtain⟨u,e,r⟩:=k;exact⟨u,VRl.push hn hx e,r⟩
  ·cases h
 |.tup l,_,_,h,k=>by
  unfold unA at h;split at h
  ·rename_i x hx;cases h;simp only[VR] at k ⊢;obtain⟨u,e,r⟩:=k;exact⟨u,VRl.push hn hx e,r⟩
  ·cases h
 |.raw _,_,_,h,k=>by cases h;exact k
 |.row _ _ _,_,_,h,k=>by cases h;simp only[VR] at k ⊢;exact k
 |.fp _,_,_,h,k=>by cases h;simp only[VR] at k ⊢;exact k
 |.own b,_,_,h,k=>by
  unfold unA at h;split at h
  ·rename_i i hi;cases h;simp only[VR] at k ⊢;rw[Pt hn hi];exact k
  ·cases h
 |.op b _,_,_,h,k=>by
  unfold unA at h;split at h
  ·rename_i i hi;cases h;simp only[VR] at k ⊢;rw[Pt hn hi];exact k
  ·cases h
 |.smap _ _,_,_,h,k=>by cases h;simp only[VR] at k ⊢;exact k
 |.clo _,_,_,h,k=>by cases h;simp only[VR] at k ⊢;exact k
 |.cond q a,_,_,h,k=>by
  unfold unA at h;split at h
  ·rename_i x hx;cases h;simp only[VR] at k ⊢;exact⟨fun q=>VR.push hn hx (k.1 q),fun e=>k.2 ((Q99 hx).symm.trans e)⟩
  ·cases h
theorem VRl.push {ks:List Nat} (hn:Gm ks=true) {φ φ':Phi}:∀{l l':List AV} {vs:List Value},unL ks l=some l'→VRl φ' l vs→VRl (φ.push φ' ks) l' vs
 |[],_,_,h,k=>by cases h;rw[k.nil_inv];exact .nil
 |a::l,_,_,h,k=>by
  unfold unL at h;split at h
  ·rename_i x y hx hy;cases h;obtain⟨v,vs',rfl,h1,h2⟩:=k.cons_inv;exact .cons (VR.push hn hx h1) (VRl.push hn hy h2)
  ·cases h
end
mutual
noncomputable def Hm (ks:List Nat):AV→Bool
 |.own b=>match idx b ks with|some _=>false|none=>true
 |.op b _=>match idx b ks with|some _=>false|none=>true
 |.fn _ first cap=>nookl ks first&&nookl ks cap
 |.ifc _ a=>Hm ks a
 |.agg l=>nookl ks l
 |.tup l=>nookl ks l
 |.cond _ a=>Hm ks a
 |_=>true
noncomputable def nookl (ks:List Nat):List AV→Bool
 |[]=>true
 |a::l=>Hm ks a&&nookl ks l
end
structure Stay (φ φ':Phi) (ks:List Nat):Prop where
 m:∀b x,φ b=some x→φ' b=some x
 s:∀b,idx b ks=none→φ'.s b=φ.s b
 f:∀k o,φ.f k=some o→φ'.f k=some o
mutual
theorem VR.stay {n:List Nat}:∀{a:AV} {φ φ':Phi} {v:Value},Stay φ φ' n→VR φ a v→Hm n a=true→VR φ' a v
 |.bool _,_,_,_,_,k,_=>k
 |.int _ _,_,_,_,_,k,_=>k
 |.str _,_,_,_,_,k,_=>k
 |.ptr _ _,_,_,_,t,k,h=>by simp only[VR] at k ⊢;obtain⟨x,κ,e,r⟩:=k;exact⟨x,κ,t.m _ _ e,r⟩
 |.nilp,_,_,_,_,k,_=>k
 |.sl _ _ _ _ _,_,_,_,t,k,h=>by simp only[VR] at k ⊢;obtain⟨x,κ,e,r⟩:=k;exact⟨x,κ,t.m _ _ e,r⟩
 |.nils,_,_,_,_,k,_=>k
 |.sle,_,_,_,_,k,_=>k
 |.map _,_,_,_,t,k,h=>by simp only[VR] at k ⊢;obtain⟨x,κ,e,r⟩:=k;exact⟨x,κ,t.m _ _ e,r⟩
 |.nilm,_,_,_,_,k,_=>k
 |.fn _ _ _,_,_,_,t,k,h=>by
  simp only[VR] at k ⊢;simp only[Hm,Bool.and_eq_true] at h;obtain⟨a,b,e1,e2,r⟩:=k;exact⟨a,b,VRl.stay t e1 h.1,VRl.stay t e2 h.2,r⟩
 |.nilf,_,_,_,_,k,_=>k
 |.ifc _ _,_,_,_,t,k,h=>by
  simp only[VR] at k ⊢;simp only[Hm] at h;obtain⟨u,e,r⟩:=k;exact⟨u,VR.stay t e h,r⟩
 |.nili,_,_,_,_,k,_=>k
 |.agg _,_,_,_,t,k,h=>by
  simp only[VR] at k ⊢;simp only[Hm] at h;obtain⟨u,e,r⟩:=k;exact⟨u,VRl.stay t e h,r⟩
 |.tup _,_,_,_,t,k,h=>by
  simp only[VR] at k ⊢;simp only[Hm] at h;obtain⟨u,e,r⟩:=k;exact⟨u,VRl.stay t e h,r⟩
 |.raw _,_,_,_,_,k,_=>k
 |.row _ _ _,_,_,_,t,k,_=>by
  simp only[VR] at k ⊢;obtain⟨u,k1,k2⟩:=k
  exact⟨u,fun i hi=>(k1 i hi).mono (Dd t.f),by
   rcases k2 with k2|⟨b,o,c,rfl,k0,k2⟩
   ·exact .inl k2
   ·exact .inr ⟨b,o,c,rfl,k0,fun i hi=>⟨(k2 i hi).1,by obtain⟨cs,e,fr,q1,q2⟩:=(k2 i hi).2;exact⟨cs,e,fr,t.f _ _ q1,q2⟩⟩⟩⟩
 |.fp _,_,_,_,t,k,_=>by
  simp only[VR] at k ⊢;obtain⟨b,o,u,e,k1,cs,e',fr,q1,q2⟩:=k;exact⟨b,o,u,e,k1.mono (Dd t.f),cs,e',fr,t.f _ _ q1,q2⟩
 |.own c,_,_,_,t,k,h=>by
  simp only[VR] at k ⊢;simp only[Hm] at h
  rw [t.s c (by cases hq : idx c n with
                |none=>rfl
                |some _=>rw[hq] at h;cases h)];exact k
 |.op c _,_,_,_,t,k,h=>by
  simp only[VR] at k ⊢;simp only[Hm] at h
  rw [t.s c (by cases hq : idx c n with
                |none=>rfl
                |some _=>rw[hq] at h;cases h)];exact k
 |.clo _,_,_,_,t,k,_=>by
  simp only[VR] at k ⊢;exact⟨k.1.mono (Dd t.f),k.2⟩
 |.smap _ _,_,_,_,t,k,_=>by
  simp only[VR] at k ⊢;obtain⟨x,es,clk,m,e,e1,e2,e3⟩:=k;exact⟨x,es,clk,m,e,t.f _ _ e1,e2,fun s=>⟨fun u hu=>((e3 s).1 u hu).mono (Dd t.f),fun hu=>((e3 s).2 hu).mono (Dd t.f)⟩⟩
 |.cond _ _,_,_,_,t,k,h=>by
  simp only[VR] at k ⊢;simp only[Hm] at h;exact⟨fun q=>VR.stay t (k.1 q) h,k.2⟩
theorem VRl.stay {n:List Nat}:∀{l:List AV} {φ φ':Phi} {vs:List Value},Stay φ φ' n→VRl φ l vs→nookl n l=true→VRl φ' l vs
 |[],_,_,_,_,k,_=>by rw[k.nil_inv];exact .nil
 |_::_,_,_,_,t,k,h=>by
  simp only[VRl] at k ⊢;simp only[nookl,Bool.and_eq_true] at h;obtain⟨v,vs',e,e1,e2⟩:=k;exact⟨v,vs',e,VR.stay t e1 h.1,VRl.stay t e2 h.2⟩
end
noncomputable def Pm (ks:List Nat) (a:AV):AV:=bif Hm ks a then a else Bl
theorem Zs {ks:List Nat} {a:AV} {φ φ':Phi} {v:Value} (t:Stay φ φ' ks) (k:VR φ a v):VR φ' (Pm ks a) v:=by
 unfold Pm
 cases h:Hm ks a with
 |true=>exact VR.stay t k h
 |false=>exact Lh
theorem Zr {ks:List Nat} {φ φ':Phi} (t:Stay φ φ' ks):∀{l:List AV} {vs:List Value},VRl φ l vs→VRl φ' (l.map (Pm ks)) vs
 |[],_,k=>by rw[k.nil_inv];exact .nil
 |a::l,_,k=>by
  obtain⟨v,vs',rfl,h1,h2⟩:=k.cons_inv;exact .cons (Zs t h1) (Zr t h2)
noncomputable def Pl (ks:List Nat):AO→AO
 |.row c e => .row (c.map (Pm ks)) e
 |.gh es e sz o k=>match idx k ks with|none => .gh es e sz o k|some _ => .grow es e sz
 |o=>o
noncomputable def unO (ks:List Nat):AO→Option AO
 |.row c e=>match unL ks c with|some x=>some (.row x e)|none=>none
 |.gh _ _ _ _ _=>none
 |o=>some o
noncomputable def Ic (ks:List Nat) (h':AH):AH→Option AH
 |[]=>some []
 |(b,o)::r=>match Ic ks h' r with
  |some r'=>match idx b ks with
   |some i=>match A3 i h' with
    |some o'=>match unO ks o' with
     |some o''=>some ((b,o'')::r')
     |none=>none
    |none=>some r'
   |none=>some ((b,Pl ks o)::r')
  |none=>none
theorem Mo {ks:List Nat} {h':AH}:∀{h r:AH},Ic ks h' h=some r→∀b o,A3 b r=some o→(idx b ks=none∧∃o0,A3 b h=some o0∧o=Pl ks o0)∨∃i o',idx b ks=some i∧A3 i h'=some o'∧unO ks o'=some o
 |[],_,e,b,o,k=>by cases e;cases k
 |(c,x)::h,r,e,b,o,k=>by
  unfold Ic at e;split at e
  ·rename_i r' hr;split at e
   ·rename_i i hi;split at e
    ·rename_i o' ho';split at e
     ·rename_i o'' hu;cases e;simp only[A3] at k;rcases D2 c b with⟨q,q'⟩|⟨q,q'⟩<;>rw[q] at k
      ·cases k;subst q';exact .inr ⟨i,o',hi,ho',hu⟩
      ·rcases Mo hr b o k with⟨g1,o0,g2,g3⟩|g
       ·exact .inl ⟨g1,o0,by simp only[A3,q,cond_false];exact g2,g3⟩
       ·exact .inr g
     ·cases e
    ·cases e;rcases Mo hr b o k with⟨g1,o0,g2,g3⟩|g
     ·refine .inl ⟨g1,o0,?_,g3⟩;simp only[A3];rw[I8 (by rintro rfl;rw[hi] at g1;cases g1)];exact g2
     ·exact .inr g
   ·rename_i hi;cases e;simp only[A3] at k;rcases D2 c b with⟨q,q'⟩|⟨q,q'⟩<;>rw[q] at k
    ·cases k;subst q';exact .inl ⟨hi,x,by simp[A3],rfl⟩
    ·rcases Mo hr b o k with⟨g1,o0,g2,g3⟩|g
     ·exact .inl ⟨g1,o0,by simp only[A3,q,cond_false];exact g2,g3⟩
     ·exact .inr g
  ·cases e
theorem Qh {φ φ':Phi} {ks:List Nat} (hn:Gm ks=true) {b i:Nat} (h:idx b ks=some i) {o o':AO} (ho:unO ks o=some o'):img (φ.push φ' ks) b o'=img φ' i o:=by
 funext k;have hi:=Li h;cases o<;>simp only[unO] at ho
 case row c e =>
  split at ho
  ·cases ho;simp only[img,Ke hn hi]
  ·cases ho
 all_goals (cases ho<;>simp only[img,Ke hn hi,Pt hn hi])
theorem Q0z {φ φ':Phi} {ks:List Nat} (hm:∀b x,φ.pull ks b=some x→φ' b=some x) (hf:∀b o,φ.f b=some o→φ'.f b=some o):Stay φ (φ.push φ' ks) ks:=by
 refine⟨fun b x e=>?_,fun b e=>by simp[Phi.push,e],hf⟩;show(match idx b ks with|some i=>φ' i|none=>φ b)=some x
 cases hi:idx b ks with
 |none=>exact e
 |some i=>exact hm i x (by rw[Jk hi];exact e)
theorem Rel.push {B:Bas} {φ φ':Phi} {h H H' h2:AH} {w w':World} {ks:List Nat} (r:Rel B φ h w) (hn:Gm ks=true) (hs:J8 ks h 0 ks=some H) (r':Rel (Gf (φ.pull ks) H w) φ' H' w')
  (hm:∀b x,φ.pull ks b=some x→φ' b=some x) (hf:∀b o,φ.f b=some o→φ'.f b=some o) (hfn:∀b o,φ'.f b=some o→φ.f b=some o∨¬(Gf (φ.pull ks) H w).old b) (k:Ic ks H' h=some h2):Rel B (φ.push φ' ks) h2 w':=by
 have st:=Q0z (φ:=φ) (φ':=φ') (ks:=ks) hm hf
 have gH:∀i o,A3 i H=some o→∃b o0,idx b ks=some i∧A3 b h=some o0∧Md ks o0=some o:=by
  intro i o e;obtain⟨_,b,o0,g1,g2,g3⟩:=R2 hs i o e;exact⟨b,o0,Qi hn (by simpa using g1),g2,g3⟩
 have oth:∀b o q,idx b ks=none→A3 b h=some o→img φ b o q→(Gf (φ.pull ks) H w).old q:=by
  intro b o q hb e i;refine⟨(r.gf b o q e i).2.1,fun j o' e' i'=>?_⟩;obtain⟨b',o0,g1,g2,g3⟩:=gH j o' e';rw[Oi g1 g3] at i';have:=r.sep b b' o o0 q e g2 i i';subst this;rw[hb] at g1;cases g1
 have himg:∀b o,idx b ks=none→img (φ.push φ' ks) b (Pl ks o)=img φ b o:=by
  intro b o hb
  have h1:(φ.push φ' ks) b=φ b:=by simp[Phi.push,hb]
  have h2:(φ.push φ' ks).s b=φ.s b:=by simp[Phi.push,hb]
  funext k;cases o<;>simp only[Pl,img,h1,h2];rename_i q;cases idx q ks<;>simp only[img,h2]
 have notold:∀k,¬(Gf (φ.pull ks) H w).old k→¬B.old k:=by
  intro k hk hB;refine hk ⟨r.below.lt hB,fun i o e i'=>?_⟩;obtain⟨b',o0,g1,g2,g3⟩:=gH i o e;rw[Oi g1 g3] at i';exact(r.gf b' o0 k g2 i').1 hB
 refine⟨r.below.to r'.below.os r'.below.tape r'.below.output r'.below.size fun j hj=>?_,r'.fro,fun b o e=>?_,fun b b' o o' q e e' i i'=>?_,fun b o q e i=>?_⟩
 ·refine r'.below.block j ?_;by_cases h:(Gf (φ.pull ks) H w).old j
  ·exact h
  ·exact absurd hj (notold j h)
 ·rcases Mo k b o e with⟨g1,o0,g2,rfl⟩|⟨i,o',g1,g2,g3⟩
  ·have ha:=r.obj b o0 g2;have hsame:∀q,img φ b o0 q→w'.heap[q]? = w.heap[q]? := fun q hq=>r'.below.block q (oth b o0 q g1 g2 hq)
   have h1:(φ.push φ' ks) b=φ b:=by simp[Phi.push,g1]
   have h2:(φ.push φ' ks).s b=φ.s b:=by simp[Phi.push,g1]
   cases o0 with
   |row c e'=>obtain⟨x,κ,vs,a1,a2,a3⟩:=ha;exact⟨x,κ,vs,by rw[h1];exact a1,(hsame x (by simp[img,a1])).trans a2,Zr st a3⟩
   |grow es e' sz=>obtain⟨v,us,a1,a2,a3,a4⟩:=ha;exact⟨v,us,by rw[h2];exact a1,Jm a2 (fun j hj=>hsame j (by simp[img,a1,hj])),a3.mono (Dd hf),a4⟩
   |map es clk=>obtain⟨x,κ,l,a1,a2,a3⟩:=ha;exact⟨x,κ,l,by rw[h1];exact a1,(hsame x (by simp[img,a1])).trans a2,a3.mono (Dd hf)⟩
   |siter s p=>obtain⟨x,κ,a1,a2⟩:=ha;exact⟨x,κ,by rw[h1];exact a1,(hsame x (by simp[img,a1])).trans a2⟩
   |mm g ho e' sz=>exact(show At B φ w b (.mm g ho e' sz) from ha).imp (φ':=φ.push φ' ks) ⟨h1,h2,hf⟩ hsame
   |gh es e' sz o0 k0 =>
    obtain⟨v,us,hd,a1,a2,a3,a4,a5,a6⟩:=ha;have hown:=Jm a2 (fun j hj=>hsame j (by simp[img,a1,hj]));simp only[Pl]
    cases hq:idx k0 ks with
    |some i=>exact⟨v,us,by rw[h2];exact a1,hown,a3.mono (Dd hf),a4⟩
    |none=>exact⟨v,us,hd,by rw[h2];exact a1,hown,a3.mono (Dd hf),a4,by simp[Phi.push,hq];exact a5,a6⟩
  ·have ha:=r'.obj i o' g2;have hi:=Li g1;cases o'<;>simp only[unO] at g3
   case row c e' =>
    split at g3
    ·rename_i x hx;cases g3;obtain⟨y,κ,vs,a1,a2,a3⟩:=ha;exact⟨y,κ,vs,by rw[Ke hn hi];exact a1,a2,a3.push hn hx⟩
    ·cases g3
   case grow es e' sz=>cases g3;obtain⟨v,vs,a1,a2⟩:=ha;exact⟨v,vs,by rw[Pt hn hi];exact a1,a2⟩
   case map es clk=>cases g3;obtain⟨x,κ,l,a1,a2⟩:=ha;exact⟨x,κ,l,by rw[Ke hn hi];exact a1,a2⟩
   case siter s p=>cases g3;obtain⟨x,κ,a1,a2⟩:=ha;exact⟨x,κ,by rw[Ke hn hi];exact a1,a2⟩
   case mm g ho e' sz=>cases g3;obtain⟨x,κ,es,clk,m,a1,a2,a3,a4,a5,a6⟩:=ha;exact⟨x,κ,es,clk,m,by rw[Ke hn hi];exact a1,a2,a3,a4,by rw[Pt hn hi];exact a5,a6⟩
   case gh=>cases g3
 ·rcases Mo k b o e with⟨g1,o0,g2,rfl⟩|⟨j,p,g1,g2,g3⟩<;>rcases Mo k b' o' e' with⟨g1',o0',g2',rfl⟩|⟨j',p',g1',g2',g3'⟩
  ·rw[himg b o0 g1] at i;rw[himg b' o0' g1'] at i';exact r.sep b b' o0 o0' q g2 g2' i i'
  ·rw[himg b o0 g1] at i;rw[Qh hn g1' g3'] at i';exact absurd (oth b o0 q g1 g2 i) (r'.gf j' p' q g2' i').1
  ·rw[Qh hn g1 g3] at i;rw[himg b' o0' g1'] at i';exact absurd (oth b' o0' q g1' g2' i') (r'.gf j p q g2 i).1
  ·rw[Qh hn g1 g3] at i;rw[Qh hn g1' g3'] at i';have:=r'.sep j j' p p' q g2 g2' i i';subst this;have a:=Li g1;have a':=Li g1';rw[a] at a';exact Option.some.inj a'
 ·rcases Mo k b o e with⟨g1,o0,g2,rfl⟩|⟨j,p,g1,g2,g3⟩
  ·rw[himg b o0 g1] at i;have hg:=r.gf b o0 q g2 i;have ho:=oth b o0 q g1 g2 i;refine⟨hg.1,Nat.lt_of_lt_of_le hg.2.1 r'.below.size,?_⟩;show φ'.f q=none
   cases hx:φ'.f q with
   |none=>rfl
   |some z =>
    rcases hfn q z hx with h|h
    ·rw[hg.2.2] at h;cases h
    ·exact absurd ho h
  ·rw[Qh hn g1 g3] at i;have hg:=r'.gf j p q g2 i;exact⟨notold q hg.1,hg.2⟩
noncomputable def J7 (ks:List Nat):Fr→Fr:=Ih (Pm ks)
theorem FRel.stay {φ φ':Phi} {ks:List Nat} {n:Nat} {s:Fr} {σ:Nat→Value} (r:FRel φ n s σ) (t:Stay φ φ' ks):FRel φ' n (J7 ks s) σ:=by
 intro u a h;simp only[J7,Qa] at h;obtain⟨a0,h1,rfl⟩:=Option.map_eq_some_iff.1 h;exact Zs t (r u a0 h1)
noncomputable def M3 (m:Nat):List Nat→Bool
 |[]=>true
 |b::r=>Nat.blt b m&&M3 m r
theorem Q7m {m:Nat}:∀{ks:List Nat},M3 m ks=true→∀{b i:Nat},idx b ks=some i→b < m
 |[],_,_,_,h=>by cases h
 |x::r,h,b,i,k=>by
  simp only[M3,Bool.and_eq_true] at h;unfold idx at k;rcases D2 x b with⟨e,q⟩|⟨e,q⟩<;>rw[e] at k
  ·subst q;simpa [Nat.blt_eq] using h.1
  ·rw[cond_false] at k;split at k
   ·rename_i j hj;exact Q7m h.2 hj
   ·cases k
section
variable {P : Program} {B : Bas} {w : World} {F : Cx} {n : Nat} {φ : Phi} {σ : Nat → Value} {K : Exit → St → Prop} {x : St} {ops : Array Oper}
theorem Holds.callS {φ':Phi} {w':World} {ks:List Nat} {H H' h2:AH} {r r':AV} {v:Value} {dst:Option Nat} {s':Fr} (hx:Holds B F n x φ σ w) (hn:Gm ks=true) (hb:M3 x.nx ks=true) (hs:J8 ks x.h 0 ks=some H) (hk:Ic ks H' x.h=some h2)
  (q1:Rel (Gf (φ.pull ks) H w) φ' H' w') (q2:VR φ' r v) (q3:∀b y,b < ks.length→φ.pull ks b=some y→φ' b=some y) (q4:∀b o,φ.f b=some o→φ'.f b=some o) (q5:∀b o,φ'.f b=some o→φ.f b=some o∨¬(Gf (φ.pull ks) H w).old b)
  (hr:unA ks r=some r') (hp:B3 n dst r' (J7 ks x.s)=some s'):Holds B F n ⟨s',h2,x.nx⟩ (φ.push φ' ks) (Bn σ dst v) w':=by
 have hm:∀b y,φ.pull ks b=some y→φ' b=some y:=by
  intro b y e;refine q3 b y ?_ e;by_cases hl:b < ks.length
  ·exact hl
  ·have:ks[b]? = none:=by simp;omega
   simp[Phi.pull,this] at e
 have st:=Q0z (φ:=φ) (φ':=φ') (ks:=ks) hm q4;refine⟨(hx.fr.stay st).put hp (q2.push hn hr),hx.rel.push hn hs q1 hm q4 q5 hk,fun b hb'=>?_,fun b o e=>q4 _ _ (hx.old b o e),fun b o e=>?_,fun b y e=>st.m _ _ (hx.base b y e)⟩
 ·have:idx b ks=none:=by
   cases hi:idx b ks with
   |none=>rfl
   |some i=>have:=Q7m hb hi;have h':x.nx≤b:=hb';omega
  have hd:=hx.dom b hb';exact⟨by simp only[Phi.push,this];exact hd.1,by simp only[Phi.push,this];exact hd.2⟩
 ·rcases q5 b o e with h|h
  ·exact hx.new b o h
  ·refine .inr fun hB=>h ⟨hx.rel.below.lt hB,fun i o' e' i'=>?_⟩;obtain⟨_,b',o0,g1,g2,g3⟩:=R2 hs i o' e';rw[Oi (Qi hn (by simpa using g1)) g3] at i';exact(hx.rel.gf b' o0 b g2 i').1 hB
theorem Ew {rest:List Oper} {f:FuncId} {ar:Array Operand} {ts:Array TypeId} {ty:TypeId} {ps:String} {dst:Option Tmp} {af:Array Edge} {g:Option (Nat × Bool)} {al al':List AV} {r r':AV} {s':Fr} {H H' h2:AH} (ks:List Nat)
  (hg:Cp ops x.s g=true) (he:Ai P f) (ha:Dw (evA x.s) ar.toList=some al) (hra:renL ks al=some al') (hn:Gm ks=true) (hb:M3 x.nx ks=true) (hs:J8 ks x.h 0 ks=some H) (hf:Gz P f al' H ks.length r H')
  (hk:Ic ks H' x.h=some h2) (hr:unA ks r=some r') (hp:B3 n dst r' (J7 ks x.s)=some s') (next:SO P n ops rest B F K ⟨s',h2,x.nx⟩):SO P n ops (⟨dst,.call { callee:=.value (.func f),args:=ar,argTypes:=ts },ty,ps,af,g⟩::rest) B F K x:=by
 intro φ σ w hx;have hv:=(E4 hx.fr.ev ha).pull hra;refine Cv (Cs hx.fr hg) he (hf B (φ.pull ks) w _ (hx.rel.pull hn hs) hv) ?_;rintro v w' ⟨φ',q1,q2,q3,q4,q5⟩;exact next _ _ _ (hx.callS hn hb hs hk q1 q2 q3 q4 q5 hr hp)
theorem Ut {rest:List Oper} {t:Nat} {f:FuncId} {cap:List AV} {ar:Array Operand} {ts:Array TypeId} {ty:TypeId} {ps:String} {dst:Option Tmp} {af:Array Edge} {g:Option (Nat × Bool)} {al al':List AV} {r r':AV} {s':Fr} {H H' h2:AH} (ks:List Nat)
  (hg:Cp ops x.s g=true) (hc:Ck t x.s=some (.fn f [] cap)) (he:Ai P f) (ha:Dw (evA x.s) ar.toList=some al) (hra:renL ks (al++cap)=some al') (hn:Gm ks=true) (hb:M3 x.nx ks=true) (hs:J8 ks x.h 0 ks=some H) (hf:Gz P f al' H ks.length r H')
  (hk:Ic ks H' x.h=some h2) (hr:unA ks r=some r') (hp:B3 n dst r' (J7 ks x.s)=some s') (next:SO P n ops rest B F K ⟨s',h2,x.nx⟩):SO P n ops (⟨dst,.call { callee:=.value (.tmp t),args:=ar,argTypes:=ts },ty,ps,af,g⟩::rest) B F K x:=by
 intro φ σ w hx;have hfn:=hx.fr _ _ hc;simp only[VR] at hfn;obtain⟨vf,vc,h1,h2',h3⟩:=hfn;have:=h1.nil_inv;subst this;have hv:=((E4 hx.fr.ev ha).append h2').pull hra;refine Rb (x:=.tmp t) (cap:=vc.toArray) (Cs hx.fr hg) h3 he (hf B (φ.pull ks) w (List.map (ev n σ) ar.toList++vc) (hx.rel.pull hn hs) hv) ?_;rintro v w' ⟨φ',q1,q2,q3,q4,q5⟩;exact next _ _ _ (hx.callS hn hb hs hk q1 q2 q3 q4 q5 hr hp)
end
noncomputable def Pn (P:Program) (t:Nat) (x:St):Option St:=match Ck t x.s with
 |some a=>match Dk P x.h a with
  |some (r,h)=>some ⟨Gi t r x.s,h,x.nx⟩
  |none=>none
 |none=>none
section
variable {P : Program} {B : Bas} {w : World} {F F0 : Cx} {n : Nat} {φ : Phi} {σ : Nat → Value} {K : Exit → St → Prop} {x y : St} {ops : Array Oper}
theorem Holds.still {t:Nat} (h:Holds B F n x φ σ w) (k:Pn P t x=some y):∃φ',Holds B F n y φ' σ w:=by
 unfold Pn at k;split at k
 ·rename_i a ha;split at k
  ·rename_i r hh hr;cases k;obtain⟨F',f1,f2,f3,f4⟩:=Tm hr B φ w _ h.rel (VRl.single (h.fr _ _ ha));obtain⟨v,hv,f5⟩:=f4.single_inv;cases hv;refine⟨⟨φ.m,φ.s,F'⟩,fun u c e=>?_,f3,h.dom,fun b o e=>f1 _ _ (h.old b o e),fun b o e=>(f2 b o e).elim (h.new b o) .inr,h.base⟩;by_cases hu:u=t
   ·subst hu;rw[P8] at e;cases e;exact f5.mono (Phi.le_fz ⟨φ.m,φ.s,F'⟩)
   ·rw[P9 _ hu] at e;exact(h.fr u c e).mono (leF f1)
  ·cases k
 ·cases k
theorem Pa {c:Code} (t:Nat) (k:Pn P t x=some y) (h:SW P n c B F K y):SW P n c B F K x:=fun φ σ w hx=>by
 obtain⟨φ',hh⟩:=hx.still k;exact h _ _ _ hh
theorem Y5d {l:List Oper} (t:Nat) (k:Pn P t x=some y) (h:SO P n ops l B F K y):SO P n ops l B F K x:=fun φ σ w hx=>by
 obtain⟨φ',hh⟩:=hx.still k;exact h _ _ _ hh
end
theorem Imp.list {α:Type} [Inhabited α] {sz:Nat} {f:α→AV} {l:List α} {n:Nat} (hn:n=l.length):Imp (.row sz n (fun i=>(l.map f).getD i Bl)) (Ak sz f l):=by
 subst hn;refine Imp.row fun i hi=>Imp.of_eq ?_;simp only[List.getD_eq_getElem?_getD,List.getElem?_map,nth,List.getElem?_eq_getElem hi,Option.map_some,Option.getD_some]
theorem Imp.refl {a:AV}:Imp a a:=fun _ _ k=>k
theorem Imp.trans {a b c:AV} (h:Imp a b) (k:Imp b c):Imp a c:=fun φ v q=>k φ v (h φ v q)
section
variable {P : Program} {n : Nat} {ops : Array Oper} {Q : (Nat → Value) → World → Prop} {fuel : Nat} {listed : Array Bool} {H : World → Prop} {σ : Nat → Value} {w : World}
def Next (P:Program) (n:Nat) (ops:Array Oper) (Q:(Nat→Value)→World→Prop) (H:World→Prop) (fuel:Nat) (listed:Array Bool) (i:Nat) (σ:Nat→Value) (w:World):Prop :=
 ∃o,ops[i]? = some o∧WO P n ops [o] (fun e σ' w'=>e = .normal∧H w'∧WG P n ops Q H fuel (listed.setIfInBounds i true) σ' w') σ w
theorem Um {l:List Nat} (hr:Region.ready .any ops listed=l) (hl:l≠[]) (h:∀i∈l,Next P n ops Q H fuel listed i σ w):WG P n ops Q H (fuel+1) listed σ w:=by
 unfold WG;refine wpAnyH_all hr hl fun j hj=>?_;obtain⟨o,hi,h⟩:=h j hj;unfold WO wpList at h;unfold wpOp;simp only[hi]
 have ho:¬LetsOut (lift n fun e σ' w'=>e = .normal∧H w'∧WG P n ops Q H fuel (listed.setIfInBounds j true) σ' w'):=by
  rintro⟨a,w,σ',_,h,_⟩;cases h
 have hk:∀a w',wpList P ops (lift n fun e σ' w'=>e = .normal∧H w'∧WG P n ops Q H fuel (listed.setIfInBounds j true) σ' w') [] a w' →
   (H w'∧wpAnyH P .any ops (fun e a w=>e = .normal∧∃σ,a=mk n σ∧Q σ w) H fuel (listed.setIfInBounds j true) a w'):=by
  rintro a w' ⟨σ',rfl,_,hb,hx⟩;unfold WG at hx;exact⟨hb,hx⟩
 split at h
 ·rename_i hw;rw[if_pos hw];rcases h with h|⟨_,h⟩
  ·exact .inl (Ro hk (fun c a w hc=>by obtain⟨_,_,hc,_⟩:=hc;cases hc) ho h)
  ·exact absurd h ho
 ·rename_i hw;rw[if_neg hw];exact hk _ _ h
end
def SN (P:Program) (n:Nat) (ops:Array Oper) (B:Bas) (F:Cx) (K:St→Prop) (F0:Cx) (E:Bool) (fuel:Nat) (listed:Array Bool) (i:Nat) (x:St):Prop :=
 ∀φ σ w,Holds B F0 n x φ σ w→(E=true→φ.f=F0.f)→Next P n ops (fun σ w=>∃y φ,Holds B F0 n y φ σ w∧K y) (Fro F0.f) fuel listed i σ w
section
variable {P : Program} {B : Bas} {w : World} {F F0 : Cx} {n : Nat} {φ : Phi} {σ : Nat → Value} {KK : St → Prop} {x : St} {E : Bool} {ops : Array Oper} {fuel : Nat} {listed : Array Bool}
theorem Cl (i j:Nat) (hr:Region.ready .any ops listed=[i,j]) (h1:SN P n ops B F KK F0 E fuel listed i x) (h2:SN P n ops B F KK F0 E fuel listed j x):SG P n ops B F KK F0 E (fuel+1) listed x:=by
 unfold SG;intro φ σ w hx hE;refine Um hr (by simp) fun k hk=>?_;rcases (by simpa using hk:k=i∨k=j) with rfl|rfl
 ·exact h1 φ σ w hx hE
 ·exact h2 φ σ w hx hE
theorem Hg (i j l:Nat) (hr:Region.ready .any ops listed=[i,j,l]) (h1:SN P n ops B F KK F0 E fuel listed i x) (h2:SN P n ops B F KK F0 E fuel listed j x) (h3:SN P n ops B F KK F0 E fuel listed l x):SG P n ops B F KK F0 E (fuel+1) listed x:=by
 unfold SG;intro φ σ w hx hE;refine Um hr (by simp) fun k hk=>?_;rcases (by simpa using hk:k=i∨k=j∨k=l) with rfl|rfl|rfl
 ·exact h1 φ σ w hx hE
 ·exact h2 φ σ w hx hE
 ·exact h3 φ σ w hx hE
theorem Q80 (i:Nat) (lz:List Nat) {o:Oper} {y:St} {C:Option Prop} (hi:ops[i]? = some o) (h:K7 P n ops lz o x=some (y,C)) (hC:Bk C)
  (next:SG P n ops B F KK F0 E fuel (listed.setIfInBounds i true) y):SN P n ops B F KK F0 E fuel listed i x:=by
 intro φ σ w hx hE;refine⟨o,hi,Vd hx h hC fun φ' σ' w' hh e=>A0 ⟨rfl,hh.hold,?_⟩⟩;unfold SG at next;exact next φ' σ' w' hh (fun q=>e.trans (hE q))
theorem Y5w (i:Nat) {f:FuncId} {ar:Array Operand} {ts:Array TypeId} {ty:TypeId} {ps:String} {dst:Option Tmp} {af:Array Edge} {g:Option (Nat × Bool)} {al:List AV} {r:AV} {s':Fr}
  (hi:ops[i]? = some ⟨dst,.call { callee:=.value (.func f),args:=ar,argTypes:=ts },ty,ps,af,g⟩)
  (hg:Cp ops x.s g=true) (he:Ai P f) (ha:Dw (evA x.s) ar.toList=some al) (hz:frzl al=true) (hf:FnV P f al r) (hp:B3 n dst r x.s=some s')
  (next:SG P n ops B F KK F0 false fuel (listed.setIfInBounds i true) ⟨s',x.h,x.nx⟩):SN P n ops B F KK F0 E fuel listed i x:=by
 intro φ σ w hx hE;refine⟨_,hi,?_⟩;have hv:=(E4 hx.fr.ev ha).fz hz;refine Cv (Cs hx.fr hg) he (hf φ.f w _ hx.rel.fro hv) ?_;rintro v w' ⟨hb,F',h1,h2,h3,h4⟩;have hh:=hx.called hb h1 h2 h3
 have hh':Holds B F0 n ⟨s',x.h,x.nx⟩ ⟨φ.m,φ.s,F'⟩ (Bn σ dst v) w':=⟨hh.fr.put hp (h4.mono (Phi.le_fz ⟨φ.m,φ.s,F'⟩)),hh.rel,hh.dom,hh.old,hh.new,hh.base⟩
 unfold SG at next;exact A0 ⟨rfl,hh'.hold,next _ _ _ hh' (fun q=>by cases q)⟩
theorem Y5v (i:Nat) {f:FuncId} {ar:Array Operand} {ts:Array TypeId} {ty:TypeId} {ps:String} {dst:Option Tmp} {af:Array Edge} {g:Option (Nat × Bool)} {al:List AV} {r:AV} {s':Fr} {q:Bool}
  (hi:ops[i]? = some ⟨dst,.call { callee:=.value (.func f),args:=ar,argTypes:=ts },ty,ps,af,g⟩)
  (hg:Iy ops x.s g=some q) (he:Ai P f) (ha:Dw (Jd ar.toList (evA x.s)) ar.toList=some al) (hn:q=true→Bk (E7 (evA x.s) ar.toList)) (hz:frzl al=true) (hf:q=true→FnV P f al r) (hp:B3 n dst (.cond q r) x.s=some s')
  (next:SG P n ops B F KK F0 false fuel (listed.setIfInBounds i true) ⟨s',x.h,x.nx⟩):SN P n ops B F KK F0 E fuel listed i x:=by
 intro φ σ w hx hE;refine⟨_,hi,?_⟩;unfold SG at next;have hgk:=Mu hx.fr hg
 cases q with
 |false =>
  have hh':Holds B F0 n ⟨s',x.h,x.nx⟩ φ (Bn σ dst undef) w:=⟨hx.fr.put hp K0,hx.rel,hx.dom,hx.old,hx.new,hx.base⟩
  exact D9 hgk (A0 ⟨rfl,hx.hold,next φ _ w hh' (fun q=>by cases q)⟩)
 |true =>
  have hv:=(E4 (Nn hx.fr (hn rfl)) ha).fz hz;refine Cv hgk he (hf rfl φ.f w _ hx.rel.fro hv) ?_;rintro v w' ⟨hb,F',h1,h2,h3,h4⟩;have hh:=hx.called hb h1 h2 h3
  have hh':Holds B F0 n ⟨s',x.h,x.nx⟩ ⟨φ.m,φ.s,F'⟩ (Bn σ dst v) w':=⟨hh.fr.put hp (Nf (h4.mono (Phi.le_fz ⟨φ.m,φ.s,F'⟩))),hh.rel,hh.dom,hh.old,hh.new,hh.base⟩
  exact A0 ⟨rfl,hh'.hold,next _ _ _ hh' (fun q=>by cases q)⟩
theorem C6 (i:Nat) (hr:Region.ready .any ops listed=[i]) (h1:SN P n ops B F KK F0 E fuel listed i x):SG P n ops B F KK F0 E (fuel+1) listed x:=by
 unfold SG;intro φ σ w hx hE;refine Um hr (by simp) fun k hk=>?_;rcases (by simpa using hk:k=i) with rfl;exact h1 φ σ w hx hE
end
theorem VRl.put {φ:Phi} {a:AV}:∀{l:List AV} {vs:List Value} {j:Nat} {v:Value},VRl φ l vs→vs[j]? = some v→VR φ a v→VRl φ (l.set j a) vs
 |[],vs,j,v,h,_,_=>by simpa using h
 |x::l,vs,0,v,h,hj,ha=>by
  obtain⟨u,vs',rfl,h1,h2⟩:=h.cons_inv;simp only[List.getElem?_cons_zero,Option.some.injEq] at hj;subst hj;exact .cons ha h2
 |x::l,vs,j+1,v,h,hj,ha=>by
  obtain⟨u,vs',rfl,h1,h2⟩:=h.cons_inv;exact .cons h1 (VRl.put h2 (by simpa using hj) ha)
noncomputable def thawC (e sz b j:Nat) (x:St):Option St:=match A3 b x.h with
 |some (.row cs e')=>match cs[j]? with
  |some .nils=>some ⟨x.s,B1 b (.row (cs.set j (.own x.nx)) e') (B1 x.nx (.grow [] e sz) x.h),x.nx+1⟩
  |_=>none
 |_=>none
section
variable {P : Program} {B : Bas} {w : World} {F F0 : Cx} {n : Nat} {φ : Phi} {σ : Nat → Value} {K : Exit → St → Prop} {x y : St} {ops : Array Oper}
theorem Holds.thawC {e sz b j:Nat} (h:Holds B F n x φ σ w) (hsz:Nat.blt 0 sz=true) (k:thawC e sz b j x=some y):∃φ',Holds B F n y φ' σ w:=by
 unfold Sv.thawC at k;split at k
 ·rename_i cs e' hb;split at k
  ·rename_i hj;cases k;obtain⟨x0,κ,vs,a1,a2,a3⟩:=h.rel.obj b _ hb;obtain⟨v,hvj,hv⟩:=a3.get hj;obtain⟨φ1,hle,r1,d1,hs1,hf1⟩:=Rx (e:=e) (sz:=sz) (a:=.nils) (h:=x.h) (nx:=x.nx) rfl (by simpa [Nat.blt_eq] using hsz) hv h.rel h.dom
   have hne:b≠x.nx:=by
    rintro rfl;rw[(h.dom _ (Nat.le_refl _)).1] at a1;cases a1
   have hb1:A3 b (B1 x.nx (.grow [] e sz) x.h)=some (.row cs e'):=by rw[Hp _ hne];exact hb
   refine⟨φ1,fun u c q=>(h.fr u c q).mono hle,?_,d1,fun b o q=>by rw[hf1];exact h.old b o q,fun b o q=>by rw[hf1] at q;exact h.new b o q,fun b o q=>hle.m _ _ (h.base b o q)⟩;refine r1.add (b:=b) (o:=.row (cs.set j (.own x.nx)) e') ⟨x0,κ,vs,hle.m _ _ a1,a2,(a3.mono hle).put hvj ?_⟩ ?_
   ·simp only[VR];exact⟨hs1,hv.slice rfl⟩
   ·intro q hq;have hq':img φ1 b (.row cs e') q:=hq;obtain⟨g1,g2,g3⟩:=r1.gf b _ q hb1 hq';exact⟨g1,g2,g3,fun c o' hc hg hi=>hc (r1.sep c b o' _ q hg hb1 hi hq')⟩
  ·cases k
 ·cases k
theorem Rc {c:Code} (e sz b j:Nat) (hsz:Nat.blt 0 sz=true) (k:thawC e sz b j x=some y) (h:SW P n c B F K y):SW P n c B F K x:=by
 unfold SW at h ⊢;intro φ σ w hx;obtain⟨φ',hh⟩:=hx.thawC hsz k;exact h _ _ _ hh
end
section
variable {P : Program} {B : Bas} {w : World} {F F0 : Cx} {n : Nat} {φ : Phi} {σ : Nat → Value} {K : Exit → St → Prop} {x y : St} {ops : Array Oper}
end
theorem Imp.nil {α:Type} [Inhabited α] {sz:Nat} {f:α→AV}:Imp .nils (Ak sz f []):=by
 intro F v k;simp only[VR] at k;subst k;unfold Ak;simp only[VR];exact⟨fun _=>undef,fun i hi=>absurd hi (by simp),.inl ⟨rfl,.inl rfl⟩⟩
theorem FnV.of_args {P:Program} {f:Nat} {al bl:List AV} {r:AV} (h:FnV P f al r) (k:∀φ vs,VRl φ bl vs→VRl φ al vs):FnV P f bl r:=fun F w vs h1 h2=>h F w vs h1 (k _ _ h2)
theorem ImpL.cons {a b:AV} {l m:List AV} (h:Imp a b) (k:∀φ vs,VRl φ l vs→VRl φ m vs):∀φ vs,VRl φ (a::l) vs→VRl φ (b::m) vs:=by
 intro F vs q;obtain⟨v,vs',rfl,q1,q2⟩:=q.cons_inv;exact .cons (h F v q1) (k F vs' q2)
theorem ImpL.nil:∀φ vs,VRl φ [] vs→VRl φ [] vs:=fun _ _ h=>h
section
variable {P : Program} {B : Bas} {w : World} {F F0 : Cx} {n : Nat} {φ : Phi} {σ : Nat → Value} {K : Exit → St → Prop} {x y : St} {ops : Array Oper}
theorem Dr {rest:List Oper} {dst:Option Tmp} {op:Op} {ty:TypeId} {ps:String} {af:Array Edge} {g:Option (Nat × Bool)} {s':Fr} (a:AV) (hg:Cp ops x.s g=true)
  (h:∀φ σ,FRel φ n x.s σ→∃v,(∀w,(execOp (ev n σ) ⟨dst,op,ty,ps,af,g⟩).run P w = .ok (.value v) w)∧VR φ a v) (hp:B3 n dst a x.s=some s') (next:SO P n ops rest B F K ⟨s',x.h,x.nx⟩):SO P n ops (⟨dst,op,ty,ps,af,g⟩::rest) B F K x:=by
 unfold SO at next ⊢;intro φ σ w hx;obtain⟨v,h1,h2⟩:=h φ σ hx.fr;exact B8 (Cs hx.fr hg) (h1 w) (next φ _ w ⟨hx.fr.put hp h2,hx.rel,hx.dom,hx.old,hx.new,hx.base⟩)
theorem Rh {rest:List Oper} {dst:Option Tmp} {op:Op} {ty:TypeId} {ps:String} {af:Array Edge} {g:Option (Nat × Bool)} {s':Fr} {q:Bool} (a:AV) (hg:Iy ops x.s g=some q)
  (h:q=true→∀φ σ,FRel φ n x.s σ→∃v,(∀w,(execOp (ev n σ) ⟨dst,op,ty,ps,af,g⟩).run P w = .ok (.value v) w)∧VR φ a v) (hp:B3 n dst (.cond q a) x.s=some s') (next:SO P n ops rest B F K ⟨s',x.h,x.nx⟩):SO P n ops (⟨dst,op,ty,ps,af,g⟩::rest) B F K x:=by
 unfold SO at next ⊢;intro φ σ w hx;have hgk:=Mu hx.fr hg
 cases q with
 |false=>exact D9 hgk (next φ _ w ⟨hx.fr.put hp K0,hx.rel,hx.dom,hx.old,hx.new,hx.base⟩)
 |true =>
  obtain⟨v,h1,h2⟩:=h rfl φ σ hx.fr;exact B8 hgk (h1 w) (next φ _ w ⟨hx.fr.put hp (Nf h2),hx.rel,hx.dom,hx.old,hx.new,hx.base⟩)
end
section
variable {P : Program} {B : Bas} {w : World} {F F0 : Cx} {n : Nat} {φ : Phi} {σ : Nat → Value} {K : Exit → St → Prop} {x y : St} {ops : Array Oper}
noncomputable def eqS (P:Program) (l m:List AV):List Field→Option Bool
 |[]=>some true
 | f :: fs => bif decide (f.name = "_") then none else match P.underlying f.type, l[f.offset]?, m[f.offset]? with
  |some (.int _),some (.int k a),some (.int k' b)=>bif kEq k k' then (match eqS P l m fs with
    |some r=>some (decide (a=b)&&r)
    |none=>none) else none
  |some .string,some (.str a),some (.str b)=>(match eqS P l m fs with
    |some r=>some (decide (a=b)&&r)
    |none=>none)
  |some .bool,some (.bool a),some (.bool b)=>(match eqS P l m fs with
    |some r=>some ((a == b)&&r)
    |none=>none)
  |_,_,_=>none
theorem X6r {t:TypeId} (w:World) (h:(∃k,P.underlying t=some (.int k))∨P.underlying t=some .string∨P.underlying t=some .bool):(isAgg t).run P w = .ok false w:=by
 rcases h with⟨k,h⟩|h|h<;>simp[isAgg,run_underlying h,go_sem]
theorem N0 {t:TypeId} {vs:List Value} {off:Nat} {v:Value} (w:World) (h:(∃k,P.underlying t=some (.int k))∨P.underlying t=some .string∨P.underlying t=some .bool) (hv:vs[off]? = some v):(part t vs.toArray off).run P w = .ok v w:=by
 simp[part,X6r w h,hv,go_sem]
theorem Tz {l m:List AV} {vs us:List Value} (hl:VRl φ l vs) (hm:VRl φ m us) (w:World):∀{fs:List Field} {r:Bool},eqS P l m fs=some r→(Op.eqFields 9999 vs.toArray us.toArray fs).run P w = .ok r w
 |[],r,h=>by cases h;simp[Op.eqFields]
 |f::fs,r,h=>by
  unfold eqS at h
  cases hn : decide (f.name = "_") with
  |true=>rw[hn] at h;cases h
  |false =>
   rw[hn,cond_false] at h;have hn' : f.name ≠ "_" := of_decide_eq_false hn;unfold Op.eqFields;rw[if_pos hn'];split at h
   ·rename_i k0 k a k' b hu h1 h2
    cases hk:kEq k k' with
    |false=>rw[hk] at h;cases h
    |true =>
     rw[hk,cond_true] at h;have:=Wr hk;subst this;split at h
     ·rename_i r' hr;cases h;obtain⟨v,hv,kv⟩:=hl.get h1;obtain⟨u,hu',ku⟩:=hm.get h2;simp only[VR] at kv ku;subst kv ku;simp only[Sem.run_bind,N0 w (.inl ⟨_,hu⟩) hv,N0 w (.inl ⟨_,hu⟩) hu',Result.andThen_ok,run_equalIn_int w 9998 f.type k k0 a b hu,Sem.run_ite,Tz hl hm w hr];by_cases e:a=b
      ·subst e;simp
      ·simp[e]
     ·cases h
   ·rename_i a b hu h1 h2;split at h
    ·rename_i r' hr;cases h;obtain⟨v,hv,kv⟩:=hl.get h1;obtain⟨u,hu',ku⟩:=hm.get h2;simp only[VR] at kv ku;subst kv ku;simp only[Sem.run_bind,N0 w (.inr (.inl hu)) hv,N0 w (.inr (.inl hu)) hu',Result.andThen_ok,run_equalIn_string w 9998 f.type _ _ hu,Sem.run_ite,Tz hl hm w hr,O9];by_cases e:a=b
     ·subst e;simp
     ·simp[e]
    ·cases h
   ·rename_i a b hu h1 h2;split at h
    ·rename_i r' hr;cases h;obtain⟨v,hv,kv⟩:=hl.get h1;obtain⟨u,hu',ku⟩:=hm.get h2;simp only[VR] at kv ku;subst kv ku;simp only[Sem.run_bind,N0 w (.inr (.inr hu)) hv,N0 w (.inr (.inr hu)) hu',Result.andThen_ok,run_equalIn_bool' w 9998 f.type a b hu,Sem.run_ite,Tz hl hm w hr];cases a<;>cases b<;>simp
    ·cases h
   ·cases h
def HasA (s:Fr) (X:Operand) (l:List AV):Prop:=evA s X=some (.agg l)∨∃q,evA s X=some (.cond q (.agg l))∧q=true
theorem HasA.get {s:Fr} {X:Operand} {l:List AV} (h:HasA s X l) (hf:FRel φ n s σ):∃vs,VRl φ l vs∧ev n σ X = .agg vs.toArray:=by
 rcases h with h|⟨q,h,hq⟩
 ·have:=hf.ev _ _ h;simpa only [VR] using this
 ·have:=(hf.ev _ _ h).condT hq;simpa only [VR] using this
theorem X1g {dst:Option Tmp} {X Y:Operand} {t t' ty:TypeId} {ps:String} {af:Array Edge} {g:Option (Nat × Bool)} {s:Fr} {l m:List AV} {r:Bool} (hx:HasA s X l) (hy:HasA s Y m)
  (hr:eqS P l m (P.fieldsOf t).toList=some r) (ht:P.underlying t=some (.struct (P.fieldsOf t))) (hp:P.stoodInHeld t=false) (hg:P.eqGuardType P.depth t=false) (φ:Phi) (σ:Nat→Value) (h:FRel φ n s σ) :
  ∃v,(∀w,(execOp (ev n σ) ⟨dst,.binOp .eql t X Y t',ty,ps,af,g⟩).run P w = .ok (.value v) w)∧VR φ (.bool r) v:=by
 obtain⟨vs,h1,e1⟩:=hx.get h;obtain⟨us,h2,e2⟩:=hy.get h;refine⟨.bool r,fun w=>?_,by simp only[VR]⟩;simp only[execOp,e1,e2,Sem.run_bind,run_eqGuard_agg w .eql t X Y _ _ hg,Result.andThen_ok,run_eql_struct w t,run_equalIn_struct w 9999 t _ _ ht hp,Tz h1 h2 w hr,Sem.run_pure]
end
def FnVG (P:Program) (C:(Nat→Option Obj)→Prop) (f:Nat) (al:List AV) (r:AV):Prop:=∀(F:Nat→Option Obj) (w:World) (vs:List Value),C F→Fro F w→VRl (ofF F) al vs→Calls P f vs.toArray w (Ret fun v w'=>Below w.heap.size w w' ∧
 ∃F',(∀b o,F b=some o→F' b=some o)∧Fro F' w'∧(∀b o,F' b=some o→F b=some o∨w.heap.size≤b)∧VR (ofF F') r v)
theorem FnV.g {P:Program} {C:(Nat→Option Obj)→Prop} {f:Nat} {al:List AV} {r:AV} (h:FnV P f al r):FnVG P C f al r:=fun F w vs _ hF hv=>h F w vs hF hv
section
variable {P : Program} {B : Bas} {w : World} {F F0 : Cx} {n : Nat} {φ : Phi} {σ : Nat → Value} {K : Exit → St → Prop} {x y : St} {C : (Nat → Option Obj) → Prop}
end
mutual
noncomputable def noO:AV→Bool
 |.own _=>false
 |.op _ _=>false
 |.fn _ first cap=>noOl first&&noOl cap
 |.ifc _ a=>noO a
 |.agg l=>noOl l
 |.tup l=>noOl l
 |.cond _ a=>noO a
 |_=>true
noncomputable def noOl:List AV→Bool
 |[]=>true
 |a::l=>noO a&&noOl l
end
structure Keep (φ φ':Phi):Prop where
 m:∀b x,φ b=some x→φ' b=some x
 f:∀k o,φ.f k=some o→φ'.f k=some o
mutual
theorem VR.noO:∀{a:AV} {φ φ':Phi} {v:Value},Keep φ φ'→VR φ a v→noO a=true→VR φ' a v
 |.bool _,_,_,_,_,k,_=>k
 |.int _ _,_,_,_,_,k,_=>k
 |.str _,_,_,_,_,k,_=>k
 |.ptr _ _,_,_,_,t,k,h=>by simp only[VR] at k ⊢;obtain⟨x,κ,e,r⟩:=k;exact⟨x,κ,t.m _ _ e,r⟩
 |.nilp,_,_,_,_,k,_=>k
 |.sl _ _ _ _ _,_,_,_,t,k,h=>by simp only[VR] at k ⊢;obtain⟨x,κ,e,r⟩:=k;exact⟨x,κ,t.m _ _ e,r⟩
 |.nils,_,_,_,_,k,_=>k
 |.sle,_,_,_,_,k,_=>k
 |.map _,_,_,_,t,k,h=>by simp only[VR] at k ⊢;obtain⟨x,κ,e,r⟩:=k;exact⟨x,κ,t.m _ _ e,r⟩
 |.nilm,_,_,_,_,k,_=>k
 |.fn _ _ _,_,_,_,t,k,h=>by
  simp only[VR] at k ⊢;simp only[noO,Bool.and_eq_true] at h;obtain⟨a,b,e1,e2,r⟩:=k;exact⟨a,b,VRl.noO t e1 h.1,VRl.noO t e2 h.2,r⟩
 |.nilf,_,_,_,_,k,_=>k
 |.ifc _ _,_,_,_,t,k,h=>by
  simp only[VR] at k ⊢;simp only[noO] at h;obtain⟨u,e,r⟩:=k;exact⟨u,VR.noO t e h,r⟩
 |.nili,_,_,_,_,k,_=>k
 |.agg _,_,_,_,t,k,h=>by
  simp only[VR] at k ⊢;simp only[noO] at h;obtain⟨u,e,r⟩:=k;exact⟨u,VRl.noO t e h,r⟩
 |.tup _,_,_,_,t,k,h=>by
  simp only[VR] at k ⊢;simp only[noO] at h;obtain⟨u,e,r⟩:=k;exact⟨u,VRl.noO t e h,r⟩
 |.raw _,_,_,_,_,k,_=>k
 |.row _ _ _,_,_,_,t,k,_=>by
  simp only[VR] at k ⊢;obtain⟨u,k1,k2⟩:=k
  exact⟨u,fun i hi=>(k1 i hi).mono (Dd t.f),by
   rcases k2 with k2|⟨b,o,c,rfl,k0,k2⟩
   ·exact .inl k2
   ·exact .inr ⟨b,o,c,rfl,k0,fun i hi=>⟨(k2 i hi).1,by obtain⟨cs,e,fr,q1,q2⟩:=(k2 i hi).2;exact⟨cs,e,fr,t.f _ _ q1,q2⟩⟩⟩⟩
 |.fp _,_,_,_,t,k,_=>by
  simp only[VR] at k ⊢;obtain⟨b,o,u,e,k1,cs,e',fr,q1,q2⟩:=k;exact⟨b,o,u,e,k1.mono (Dd t.f),cs,e',fr,t.f _ _ q1,q2⟩
 |.own c,_,_,_,_,_,h=>by cases h
 |.op c _,_,_,_,_,_,h=>by cases h
 |.clo _,_,_,_,t,k,_=>by
  simp only[VR] at k ⊢;exact⟨k.1.mono (Dd t.f),k.2⟩
 |.smap _ _,_,_,_,t,k,_=>by
  simp only[VR] at k ⊢;obtain⟨x,es,clk,m,e,e1,e2,e3⟩:=k;exact⟨x,es,clk,m,e,t.f _ _ e1,e2,fun s=>⟨fun u hu=>((e3 s).1 u hu).mono (Dd t.f),fun hu=>((e3 s).2 hu).mono (Dd t.f)⟩⟩
 |.cond _ _,_,_,_,t,k,h=>by
  simp only[VR] at k ⊢;simp only[noO] at h;exact⟨fun q=>VR.noO t (k.1 q) h,k.2⟩
theorem VRl.noO:∀{l:List AV} {φ φ':Phi} {vs:List Value},Keep φ φ'→VRl φ l vs→noOl l=true→VRl φ' l vs
 |[],_,_,_,_,k,_=>by rw[k.nil_inv];exact .nil
 |_::_,_,_,_,t,k,h=>by
  simp only[VRl] at k ⊢;simp only[noOl,Bool.and_eq_true] at h;obtain⟨v,vs',e,e1,e2⟩:=k;exact⟨v,vs',e,VR.noO t e1 h.1,VRl.noO t e2 h.2⟩
end
noncomputable def clearO (a:AV):AV:=bif noO a then a else Bl
theorem VR.clearO {φ φ':Phi} {a:AV} {v:Value} (hm:∀b x,φ b=some x→φ' b=some x) (hf:∀k o,φ.f k=some o→φ'.f k=some o) (k:VR φ a v):VR φ' (clearO a) v:=by
 unfold Sv.clearO
 cases h:Sv.noO a with
 |true=>exact VR.noO ⟨hm,hf⟩ k h
 |false=>exact Lh
noncomputable def Q32 (P:Program) (n:Nat) (dst:Option Nat) (rs:List ResultVar) (s0:Fr) (k:St→Prop):Exit→St→Prop:=fun e y =>
 (e = .ret∨e = .normal)∧∃al s',H3 P rs y=some al∧B3 n dst (Ag al) s0=some s'∧k ⟨s',y.h,y.nx⟩
theorem Iw {P:Program} {n:Nat} {dst:Option Nat} {rs:List ResultVar} {s0:Fr} {k:St→Prop} {e:Exit} {y:St} {al:List AV} {s':Fr} (he:e = .ret∨e = .normal) (h1:H3 P rs y=some al) (h2:B3 n dst (Ag al) s0=some s') (h3:k ⟨s',y.h,y.nx⟩):Q32 P n dst rs s0 k e y:=⟨he,al,s',h1,h2,h3⟩
section
variable {P : Program} {B : Bas} {w : World} {F F0 : Cx} {n : Nat} {φ : Phi} {σ : Nat → Value} {K : Exit → St → Prop} {x y : St} {ops : Array Oper}
theorem K3 {rest:List Oper} {f:FuncId} {ar:Array Operand} {ts:Array TypeId} {ty:TypeId} {ps:String} {dst:Option Tmp} {af:Array Edge} {g:Option (Nat × Bool)} {al:List AV} {fn:Func} {c:Code} {n':Nat} {s0:Fr} (rs:List ResultVar)
  (hg:Cp ops x.s g=true) (he:Ai P f) (ha:Dw (evA x.s) ar.toList=some al) (hf:P.funcs[f]? = some fn) (hb:fn.body=some c) (hn:fn.ntmps=n') (hr:fn.results=rs.toArray) (hle:Nat.ble al.length n'=true) (hs:Ih clearO x.s=s0)
  (h:∀F':Cx,F'.lo=x.nx→(∀b o,F.f b=some o→F'.f b=some o)→SW P n' c B F' (Q32 P n dst rs s0 (SO P n ops rest B F K)) ⟨Hc 0 al,x.h,x.nx⟩) :
  SO P n ops (⟨dst,.call { callee:=.value (.func f),args:=ar,argTypes:=ts },ty,ps,af,g⟩::rest) B F K x:=by
 intro φ σ w hx;have hv:=E4 hx.fr.ev ha;have hlen:=hv.length
 have hcm:∀b z,(if b < x.nx then φ b else none)=some z→b < x.nx:=by
  intro b z e;by_cases hb:b < x.nx
  ·exact hb
  ·rw[if_neg hb] at e;cases e
 have hx':Holds B ⟨φ.f,fun b=>if b < x.nx then φ b else none,x.nx,hcm⟩ n' ⟨Hc 0 al,x.h,x.nx⟩ φ (Fk (ar.toList.map (ev n σ))) w:=by
  refine⟨fun t a e=>?_,hx.rel,hx.dom,fun _ _ e=>e,fun _ _ e => .inl e,fun b z e=>?_⟩
  ·obtain⟨h1,h2,h3⟩:=Ms hv e;rw[Nat.sub_zero] at h2 h3;have hal':al.length≤n':=Nat.le_of_ble_eq_true hle
   have ht:Nat.blt t n'=true:=by simp only[Nat.blt_eq];omega
   simp only[sl,ht,cond_true,Fk];exact h2
  ·by_cases hb:b < x.nx
   ·simpa only [if_pos hb] using e
   ·simp only[if_neg hb] at e;cases e
 have hcall:Calls P f (ar.toList.map (ev n σ)).toArray w (Ret fun v w'=>∃y φ' σ' al' s',Holds B ⟨φ.f,fun b=>if b < x.nx then φ b else none,x.nx,hcm⟩ n' y φ' σ' w'∧VR φ' (Ag al') v∧B3 n dst (Ag al') s0=some s'∧SO P n ops rest B F K ⟨s',y.h,y.nx⟩):=by
  refine D1 hf hb hn ?_ (by rw[hlen];exact hle);refine W_mono (h ⟨φ.f,fun b=>if b < x.nx then φ b else none,x.nx,hcm⟩ rfl hx.old _ _ _ hx') ?_;rintro e σ' w' ⟨y,φ',hy,hee,al',s',k1,k2,k3⟩;obtain⟨vs',hvs,hrun⟩:=Ma (P:=P) hy.fr hy.rel k1
  have fin:I7 P n' fn (Ret fun v w''=>∃y φ' σ' al' s',Holds B ⟨φ.f,fun b=>if b < x.nx then φ b else none,x.nx,hcm⟩ n' y φ' σ' w''∧VR φ' (Ag al') v∧B3 n dst (Ag al') s0=some s'∧SO P n ops rest B F K ⟨s',y.h,y.nx⟩) .ret σ' w' :=
   ⟨_,Nw hr hrun,_,rfl,y,φ',σ',al',s',hy,Pz hvs,k2,k3⟩
  rcases hee with rfl|rfl
  ·exact fin
  ·exact fin
 refine Cv (Cs hx.fr hg) he hcall ?_;rintro v w' ⟨y,φ',σ',al',s',hy,hvr,k2,k3⟩
 have hm:∀b z,φ b=some z→φ' b=some z:=by
  intro b z e;refine hy.base b z ?_
  have:b < x.nx:=by
   by_cases hb:b < x.nx
   ·exact hb
   ·rw[(hx.dom b (by omega)).1] at e;cases e
  simpa only [if_pos this] using e
 have hfr:FRel φ' n s0 σ:=by
  subst hs;intro t a e;rw[Qa] at e;obtain⟨a0,h1,rfl⟩:=Option.map_eq_some_iff.1 e;exact VR.clearO hm hy.old (hx.fr t a0 h1)
 exact k3 φ' _ w' ⟨hfr.put k2 hvr,hy.rel,hy.dom,fun b o e=>hy.old b o (hx.old b o e),fun b o e=>(hy.new b o e).elim (hx.new b o) .inr,fun b z e=>hm b z (hx.base b z e)⟩
def SR (P:Program) (n:Nat) (c:Code) (B:Bas) (F:Cx) (K:Exit→St→Prop):Nat→St→Prop
 |0,_=>False
 |k+1,x=>SW P n c B F (K8 (SR P n c B F K k) K) x
theorem K2 {c:Code} (k:Nat) (h:SR P n c B F K k x):SW P n (.loop c) B F K x:=by
 intro φ σ w hx;unfold W;refine wp_loop_rounds k ?_
 have key:∀k x φ σ w,SR P n c B F K k x→Holds B F n x φ σ w→Code.rounds P c (lift n (E8 B F n K)) k (mk n σ) w:=by
  intro k
  induction k with
  |zero=>intro x φ σ w h _;exact h.elim
  |succ k ih =>
   intro x φ σ w h hx;have h':=h φ σ w hx;unfold W at h';refine wp_mono h' ?_;rintro e a w' ⟨σ',rfl,y,φ',hy,q⟩
   cases e with
   |normal=>exact ih y φ' σ' w' q hy
   |_=>exact⟨σ',rfl,y,φ',hy,q⟩
 exact key k x φ σ w h hx
theorem Db {c:Code} {k:Nat} (h:SW P n c B F (K8 (SR P n c B F K k) K) x):SR P n c B F K (k+1) x:=h
def FunV (P:Program) (a:AV) (al:List AV) (r:AV):Prop:=∀(F:Nat→Option Obj) (v:Value),VR (ofF F) a v→∃g vc,v = .func (.func g) #[] vc∧Ai P g ∧
 ∀(F':Nat→Option Obj) (w:World) (vs:List Value),(∀b o,F b=some o→F' b=some o)→Fro F' w→VRl (ofF F') al vs→Calls P g (vs.toArray++vc) w (Ret fun v w'=>Below w.heap.size w w' ∧
  ∃F'',(∀b o,F' b=some o→F'' b=some o)∧Fro F'' w'∧(∀b o,F'' b=some o→F' b=some o∨w.heap.size≤b)∧VR (ofF F'') r v)
theorem FunV.of {P:Program} {g:Nat} {cap al:List AV} {r:AV} (he:Ai P g) (h:FnV P g (al++cap) r):FunV P (.fn g [] cap) al r:=by
 intro F v hv;simp only[VR] at hv;obtain⟨vf,vc,h1,h2,rfl⟩:=hv;rw[h1.nil_inv];refine⟨g,vc.toArray,rfl,he,fun F' w vs hle hF hvs=>?_⟩;have:=h F' w (vs++vc) hF (hvs.append (h2.mono (Jo hle)));rw[show vs.toArray++vc.toArray=(vs++vc).toArray by apply Array.ext';simp];exact this
theorem FunV.clo {P:Program} {a:AV} {al:List AV} {r:AV} (h:FunV P a al r):FunV P (.clo a) al r:=fun F v hv=>by
 simp only[VR] at hv;exact h F v hv.1
theorem Imp.clo {g:Nat} {cap:List AV} (h:frzl cap=true):Imp (.fn g [] cap) (.clo (.fn g [] cap)):=fun φ v hv=>by
 have hz:=hv.fz (by simp[frz,frzl,h]);simp only[VR] at hz ⊢;refine⟨hz,?_⟩;obtain⟨vf,vc,h1,h2,rfl⟩:=hz;rw[h1.nil_inv];exact⟨g,vc.toArray,rfl⟩
theorem FunV.imp {P:Program} {a b:AV} {al:List AV} {r:AV} (h:FunV P b al r) (i:Imp a b):FunV P a al r:=fun F v hv=>h F v (i _ _ hv)
theorem Fc {rest:List Oper} {t:Nat} {ar:Array Operand} {ts:Array TypeId} {ty:TypeId} {ps:String} {dst:Option Tmp} {af:Array Edge} {g:Option (Nat × Bool)} {a:AV} {al:List AV} {r:AV} {s':Fr}
  (hg:Cp ops x.s g=true) (hc:Ck t x.s=some a) (hza:frz a=true) (ha:Dw (evA x.s) ar.toList=some al) (hz:frzl al=true) (hf:FunV P a al r) (hp:B3 n dst r x.s=some s')
  (next:SO P n ops rest B F K ⟨s',x.h,x.nx⟩):SO P n ops (⟨dst,.call { callee:=.value (.tmp t),args:=ar,argTypes:=ts },ty,ps,af,g⟩::rest) B F K x:=by
 intro φ σ w hx;obtain⟨gg,vc,h1,h2,h3⟩:=hf φ.f _ ((hx.fr _ _ hc).fz hza);have hv:=(E4 hx.fr.ev ha).fz hz;have:=h3 φ.f w _ (fun _ _ e=>e) hx.rel.fro hv;rw[show((ar.toList.map (ev n σ)).toArray++vc)=(ar.toList.map (ev n σ)++vc.toList).toArray by apply Array.ext';simp] at this;refine Rb (x:=.tmp t) (cap:=vc) (Cs hx.fr hg) h1 h2 this ?_;rintro v w' ⟨hb,F',h1,h2,h3,h4⟩;have hh:=hx.called hb h1 h2 h3;exact next _ _ _ ⟨hh.fr.put hp (h4.mono (Phi.le_fz ⟨φ.m,φ.s,F'⟩)),hh.rel,hh.dom,hh.old,hh.new,hh.base⟩
noncomputable def Me:AV→Bool
 |.bool _=>true
 |.int _ _=>true
 |.str _=>true
 |_=>false
theorem Pw {φ φ':Phi} {a:AV} {v:Value} (h:Me a=true) (k:VR φ a v):VR φ' a v:=by
 cases a<;>simp only[Me,Bool.false_eq_true] at h<;>simpa only [VR] using k
theorem Y5r {rest:List Oper} {f:FuncId} {ar:Array Operand} {ts:Array TypeId} {ty:TypeId} {ps:String} {dst:Option Tmp} {af:Array Edge} {g:Option (Nat × Bool)} {al al':List AV} {h':AH} {r:AV} {s':Fr}
  (hg:Cp ops x.s g=true) (he:Ai P f) (ha:Dw (evA x.s) ar.toList=some al) (hz:frzVl P x.h al=some (al',h')) (hf:FnV P f al' r) (hr:Me r=true) (hp:B3 n dst r x.s=some s')
  (next:SO P n ops rest B F K ⟨s',x.h,x.nx⟩):SO P n ops (⟨dst,.call { callee:=.value (.func f),args:=ar,argTypes:=ts },ty,ps,af,g⟩::rest) B F K x:=by
 intro φ σ w hx;obtain⟨F',f1,f2,f3,f4⟩:=frzVl_ok hz B φ w _ hx.rel (E4 hx.fr.ev ha);refine Cv (Cs hx.fr hg) he (hf F' w _ f3.fro f4) ?_;rintro v w' ⟨hb,F'',h1,h2,h3,h4⟩;have hh:Holds B F n x φ σ w':=hx.called hb (fun _ _ e=>e) (fun b o e=>(hb.block b (Dl (hx.rel.fro b o e))).trans (hx.rel.fro b o e)) (fun _ _ e => .inl e);exact next _ _ _ ⟨hh.fr.put hp (Pw hr h4),hh.rel,hh.dom,hh.old,hh.new,hh.base⟩
end
theorem Rel.turnO {B:Bas} {w w':World} {φ φ':Phi} {h:AH} (r:Rel B φ h w) {b:Nat} {o o':AO} (hb:A3 b h=some o) (t:Turn φ φ' b) (hf:φ'.f=φ.f) (hbel:Bel B w') (hsz:w.heap.size≤w'.heap.size)
  (hkeep:∀k,k < w.heap.size→¬img φ b o k→w'.heap[k]? = w.heap[k]?) (ha:At B φ' w' b o') (hi:∀k,img φ' b o' k→¬B.old k∧k < w'.heap.size∧φ.f k=none∧∀c o1,c≠b→A3 c h=some o1→¬img φ c o1 k):Rel B φ' (B1 b o' (E0 b h)) w':=by
 have himg:∀c o,c≠b→img φ' c (H4 b o)=img φ c o:=by
  intro c o hc;funext k
  cases o<;>simp only[H4,img]<;>first|(rename_i q;cases Nat.beq q b<;>simp only[cond_true,cond_false,img]<;>rw[t.s c hc];done)|rw[t.m,t.s c hc]|rw[t.m]|rw[t.s c hc]
 have hoff:∀c o1 k,c≠b→A3 c h=some o1→img φ c o1 k→¬img φ b o k:=fun c o1 k hc e1 i1 i2=>hc (r.sep c b o1 o k e1 hb i1 i2)
 have h1:Rel B φ' (E0 b (Cr b h)) w':=by
  have getd:∀c o,A3 c (E0 b (Cr b h))=some o→∃o1,c≠b∧A3 c h=some o1∧o=H4 b o1:=by
   intro c o k;rw[Jp] at k;obtain⟨o1,k1,k2⟩:=Option.map_eq_some_iff.1 k;exact⟨o1,(D6 k1).1,(D6 k1).2,k2.symm⟩
  refine⟨hbel,fun k o2 q=>?_,?_,?_,?_⟩
  ·rw[hf] at q;have:=r.fro k o2 q;rw[hkeep k (Dl this) (fun e=>by have:=(r.gf b o k hb e).2.2;rw[this] at q;cases q)];exact this
  ·intro c o2 k;obtain⟨o1,hc,k1,rfl⟩:=getd c o2 k;have hk:∀j,img φ c o1 j→w'.heap[j]? = w.heap[j]? := fun j hj=>hkeep j (r.gf c o1 j k1 hj).2.1 (hoff c o1 j hc k1 hj);have ho:=r.obj c o1 k1
   cases o1 with
   |row c' e' =>
    obtain⟨x,κ,vs,q1,q2,q3⟩:=ho;exact⟨x,κ,vs,by rw[t.m];exact q1,(hk x (by simp[img,q1])).trans q2,Vq t q3⟩
   |grow es0 e0 sz0=>exact ho.imp (o:=.grow es0 e0 sz0) ⟨t.s c hc,t.f⟩ hk
   |map es0 clk=>exact ho.imp (o:=.map es0 clk) ⟨t.m c,t.f⟩ hk
   |siter s p=>exact ho.imp (o:=.siter s p) (t.m c) hk
   |mm g ho' e0 sz0=>exact ho.imp (o:=.mm g ho' e0 sz0) ⟨t.m c,t.s c hc,t.f⟩ hk
   |gh es0 e0 sz0 o0 k0 =>
    obtain⟨u,us,hd,q1,q2,q3,q4,q5,q6⟩:=ho;have hown:=Jm q2 (fun j hj=>hk j (by simp[img,q1,hj]));simp only[H4]
    cases hq:Nat.beq k0 b with
    |true=>exact⟨u,us,by rw[t.s c hc];exact q1,hown,q3.mono (Dd t.f),q4⟩
    |false=>exact⟨u,us,hd,by rw[t.s c hc];exact q1,hown,q3.mono (Dd t.f),q4,by rw[t.s k0 (by rintro rfl;rw[Nat.beq_refl] at hq;cases hq)];exact q5,q6⟩
  ·intro c c' o2 o2' k k1 k2 i1 i2;obtain⟨o1,hc1,e1,rfl⟩:=getd c o2 k1;obtain⟨o2,hc2,e2,rfl⟩:=getd c' o2' k2;rw[himg c o1 hc1] at i1;rw[himg c' o2 hc2] at i2;exact r.sep c c' o1 o2 k e1 e2 i1 i2
  ·intro c o2 k k1 i1;obtain⟨o1,hc1,e1,rfl⟩:=getd c o2 k1;rw[himg c o1 hc1] at i1;have:=r.gf c o1 k e1 i1;exact⟨this.1,Nat.lt_of_lt_of_le this.2.1 hsz,by rw[hf];exact this.2.2⟩
 have h2:Rel B φ' (B1 b o' (E0 b (Cr b h))) w':=by
  refine h1.add ha fun k hk=>?_;obtain⟨a1,a2,a3,a4⟩:=hi k hk;refine⟨a1,a2,by rw[hf];exact a3,fun c o2 hc e1 i1=>?_⟩;rw[Jp,Hq hc] at e1;obtain⟨o1,k1,rfl⟩:=Option.map_eq_some_iff.1 e1;rw[himg c o1 hc] at i1;exact a4 c o1 hc k1 i1
 refine h2.congr fun c=>?_;by_cases hc:c=b
 ·subst hc;rw[Iz,Iz]
 ·rw[Hp _ hc,Hp _ hc,Jp,Jp,Hq hc]
def Phi.setS (φ:Phi) (b:Nat) (v:Value):Phi:=⟨φ.m,fun i=>if i=b then some v else φ.s i,φ.f⟩
theorem Nu (φ:Phi) (b:Nat) (v:Value):Turn φ (φ.setS b v) b:=⟨fun _=>rfl,fun c hc=>if_neg hc,fun _ _ e=>e⟩
theorem Jg (φ:Phi) (b:Nat) (v:Value):(φ.setS b v).s b=some v:=if_pos rfl
theorem P7 {n b:Nat} {φ φ':Phi} {s:Fr} {σ:Nat→Value} (t:Turn φ φ' b) (r:FRel φ n s σ):FRel φ' n (Ih (H5 b) s) σ:=by
 intro u a e;rw[Qa] at e;obtain⟨a0,h1,rfl⟩:=Option.map_eq_some_iff.1 e;exact Vr t (r u a0 h1)
def Fd (g:List UInt8→List AV) (s:List UInt8) (es:List AV):List UInt8→List AV:=fun t=>if t=s then es else g t
noncomputable def mmS (b e sz:Nat) (x:St):Option St:=match A3 b x.h with
 |some (.map [] 0)=>some ⟨Ih (H5 b) x.s,B1 b (.mm (fun _=>[]) none e sz) (E0 b x.h),x.nx⟩
 |_=>none
section
variable {P : Program} {B : Bas} {w : World} {F F0 : Cx} {n : Nat} {φ : Phi} {σ : Nat → Value} {K : Exit → St → Prop} {x y : St} {ops : Array Oper}
theorem Holds.mm {b e sz:Nat} (h:Holds B F n x φ σ w) (k:mmS b e sz x=some y):∃φ',Holds B F n y φ' σ w:=by
 unfold mmS at k;split at k
 ·rename_i hb;cases k;obtain⟨x0,κ,l,h1,h2,h3⟩:=h.rel.obj b _ hb;simp only[MR] at h3
  have hl:l = #[]:=by apply Array.ext';exact h3
  subst hl;refine⟨φ.setS b (Gj none []),P7 (Nu φ b _) h.fr,h.rel.turnO hb (Nu φ b _) rfl h.rel.below (Nat.le_refl _) (fun _ _ _=>rfl) ?_ ?_,fun c hc=>?_,h.old,h.new,h.base⟩
  ·refine⟨x0,κ,#[],0,[],h1,h2,rfl,List.nodup_nil,Jg _ _ _,fun s u hu=>(by cases hu),fun _ _=>rfl,fun s u hu=>(by cases hu),fun s s' u u' k hu=>(by cases hu)⟩
  ·intro k hk
   have hx:img φ b (.map [] 0) x0:=by simp[img,h1]
   have:k=x0:=by
    rcases hk with hk|⟨l,hl,u,hu,_⟩
    ·have hk':(φ b).map (·.1)=some k:=hk;rw[h1] at hk';simpa using hk'.symm
    ·rw[Jg] at hl;have:=Value.tuple.inj (Option.some.inj hl);subst this;simp at hu
   subst this;have hg:=h.rel.gf b _ k hb hx;exact⟨hg.1,hg.2.1,hg.2.2,fun c o1 hc e i=>hc (h.rel.sep c b o1 _ k e hb i hx)⟩
  ·refine⟨(h.dom c hc).1,?_⟩;show(if c=b then _ else _)=_;rw[if_neg ?_]
   ·exact(h.dom c hc).2
   ·rintro rfl;rw[(h.dom c hc).1] at h1;cases h1
 ·cases k
theorem Q8t {c:Code} (b e sz:Nat) (k:mmS b e sz x=some y) (h:SW P n c B F K y):SW P n c B F K x:=fun φ σ w hx=>by
 obtain⟨φ',hh⟩:=hx.mm k;exact h _ _ _ hh
noncomputable def Zo (n:Nat) (b:Nat) (s:List UInt8) (dst:Option Nat) (x:St):Option St:=match A3 b x.h with
 |some (.mm g none e sz)=>match B3 n dst (.own x.nx) (Ih (H5 b) x.s) with
  |some s'=>some ⟨s',B1 x.nx (.grow (g s) e sz) (B1 b (.mm g (some s) e sz) (E0 b x.h)),x.nx+1⟩
  |none=>none
 |_=>none
theorem Gh {rest:List Oper} {t kt et:TypeId} {X I:Operand} {dst:Option Tmp} {ty:TypeId} {ps:String} {af:Array Edge} {g:Option (Nat × Bool)} {b:Nat} {s:List UInt8}
  (hg:Cp ops x.s g=true) (hX:evA x.s X=some (.map b)) (hI:evA x.s I=some (.str s)) (ht:P.underlying t=some (.map kt et)) (hk:P.underlying kt=some .string) (hz:∀w,(zeroValue et).run P w = .ok (.slice none 0 0) w)
  (hy:Zo n b s dst x=some y) (next:SO P n ops rest B F K y):SO P n ops (⟨dst,.lookup t X I false,ty,ps,af,g⟩::rest) B F K x:=by
 intro φ σ w hx;unfold Zo at hy;split at hy
 ·rename_i gg e sz hb;split at hy
  ·rename_i s' hp;cases hy;have v1:=hx.fr.ev _ _ hX;have v2:=hx.fr.ev _ _ hI;simp only[VR] at v1 v2;obtain⟨x0,κ,e0,v1⟩:=v1;obtain⟨x1,κ1,es,clk,m,h1,h2,h3,h4,h5,h6,h7,h8,h9⟩:=hx.rel.obj b _ hb;rw[e0] at h1;cases h1
   have hm:MapIs w x0 (Ds S id m):=⟨es,clk,h2,h3⟩
   refine B8 (Cs hx.fr hg) (Uu (enc:=S) (val:=id) (k:=s) (m:=m) v1 v2 hm (Lg hk) ht hz) ?_;rw[show(Option.map id (Bj m s)).getD (.slice none 0 0)=(Bj m s).getD (.slice none 0 0) by simp];have hs:=(hx.dom x.nx (Nat.le_refl _)).2
   have hbn:b≠x.nx:=by rintro rfl;rw[(hx.dom _ (Nat.le_refl _)).1] at e0;cases e0
   have hxi:img φ b (.mm gg none e sz) x0:=.inl (by rw[e0];rfl)
   have hin:∀{t u k},Bj m t=some u→u.ownBlock=some k→img φ b (.mm gg none e sz) k:=by
    intro t u k hu hk;obtain⟨l,b1,b2⟩:=Sf (hole:=none) h4 hu (by simp);exact .inr ⟨l,by rw[h5,b1],u,b2,hk⟩
   have r1:Rel B (φ.setS b (Gj (some s) m)) (B1 b (.mm gg (some s) e sz) (E0 b x.h)) w:=by
    refine hx.rel.turnO hb (Nu φ b _) rfl hx.rel.below (Nat.le_refl _) (fun _ _ _=>rfl) ?_ ?_
    ·exact⟨x0,κ,es,clk,m,e0,h2,h3,h4,Jg _ _ _,fun t u hu ht=>h6 t u hu (by simp),h7,fun t u hu ht=>h8 t u hu (by simp),fun t t' u u' k hu hu' ht ht'=>h9 t t' u u' k hu hu' (by simp) (by simp)⟩
    ·intro k hk
     have hki:img φ b (.mm gg none e sz) k:=by
      rcases hk with hk|⟨l,hl,u,hu,hk⟩
      ·exact .inl hk
      ·rw[Jg] at hl;obtain⟨t,q1,q2⟩:=Vv h4 (Option.some.inj hl) hu;exact hin q1 hk
     have hg:=hx.rel.gf b _ k hb hki;exact⟨hg.1,hg.2.1,hg.2.2,fun c o1 hc e i=>hc (hx.rel.sep c b o1 _ k e hb i hki)⟩
   have t1:=Nu φ b (Gj (some s) m)
   have hs1:(φ.setS b (Gj (some s) m)).s x.nx=none:=by show(if x.nx=b then _ else _)=_;rw[if_neg (Ne.symm hbn)];exact hs
   obtain⟨v,hv⟩:∃v,(Bj m s).getD (.slice none 0 0)=v:=⟨_,rfl⟩
   rw[hv]
   have hform:∃a n c,v = .slice a n c:=by
    cases hl:Bj m s with
    |none=>rw[hl] at hv;subst hv;exact⟨_,_,_,rfl⟩
    |some u =>
     rw[hl] at hv;subst hv;obtain⟨vs,q1,_⟩:=h6 s u hl (by simp);obtain⟨a,c,rfl⟩:=Su q1;exact⟨_,_,_,rfl⟩
   have hat:At B ((φ.setS b (Gj (some s) m)).extS x.nx v) w x.nx (.grow (gg s) e sz):=by
    cases hl:Bj m s with
    |none =>
     rw[hl] at hv;subst hv;rw[h7 s hl];exact⟨_,[],Phi.extS_same _ _ _,World.ownsRow_nil w _ _ _,.nil,by simp⟩
    |some u =>
     rw[hl] at hv;subst hv;obtain⟨vs,q1,q2,q3⟩:=h6 s u hl (by simp);exact⟨u,vs,Phi.extS_same _ _ _,q1,q2,q3⟩
   have r2:=(r1.go (Phi.extS_le hs1) (Below.refl _ _) r1.fro (fun b o q => .inl q)).add hat (fun k hk=>by
    simp only[img,Phi.extS_same,Option.bind_some] at hk
    have hl:∃u,Bj m s=some u∧u=v:=by
     cases hl:Bj m s with
     |none=>rw[hl] at hv;subst hv;simp[Value.ownBlock] at hk
     |some u=>rw[hl] at hv;exact⟨u,rfl,hv⟩
    obtain⟨u,hl,rfl⟩:=hl;have hki:=hin hl hk;have hg:=hx.rel.gf b _ k hb hki;refine⟨hg.1,hg.2.1,hg.2.2,fun c o1 hc e1 i1=>?_⟩;have hso:SameO (φ.setS b (Gj (some s) m)) ((φ.setS b (Gj (some s) m)).extS x.nx u) c o1:=SameO.of_le (Phi.extS_le hs1) (r1.obj c o1 e1);rw[hso.img] at i1;by_cases hcb:c=b
    ·subst hcb;rw[Iz] at e1;cases e1;rcases i1 with i1|⟨l,hl',u',hu',hk'⟩
     ·have i1':(φ c).map (·.1)=some k:=i1;rw[e0] at i1';simp only[Option.map_some,Option.some.injEq] at i1';exact h8 s u hl (by simp) (by rw[hk,i1'])
     ·rw[Jg] at hl';obtain⟨t,q1,q2⟩:=Vv h4 (Option.some.inj hl') hu';exact q2 (by rw[h9 s t u u' k hl q1 (by simp) (by simp) hk hk'])
    ·rw[Hp _ hcb,Jp] at e1;obtain⟨o2,k2,rfl⟩:=Option.map_eq_some_iff.1 e1
     have:img (φ.setS b (Gj (some s) m)) c (H4 b o2)=img φ c o2:=by
      funext k
      cases o2<;>simp only[H4,img]<;>first|(rename_i q;cases Nat.beq q b<;>simp only[cond_true,cond_false,img]<;>rw[t1.s c hcb];done)|rw[t1.m,t1.s c hcb]|rw[t1.m]|rw[t1.s c hcb]
     rw[this] at i1
     exact hcb (hx.rel.sep c b o2 _ k k2 hb i1 hki))
   have hfr:FRel ((φ.setS b (Gj (some s) m)).extS x.nx v) n (Ih (H5 b) x.s) σ:=fun u a e=>(P7 t1 hx.fr u a e).mono (Phi.extS_le hs1);refine next _ _ w ⟨hfr.put hp ?_,r2,fun c hc=>?_,hx.old,hx.new,hx.base⟩
   ·simp only[VR];exact⟨Phi.extS_same _ _ _,hform⟩
   ·have hc':x.nx+1≤c:=by assumption
    refine⟨(hx.dom c (by omega)).1,?_⟩;show(if c=x.nx then _ else (if c=b then _ else _))=_;rw[if_neg (by omega),if_neg (by rintro rfl;rw[(hx.dom _ (by omega)).1] at e0;cases e0)];exact(hx.dom c (by omega)).2
  ·cases hy
 ·cases hy
noncomputable def Q0y (b c:Nat) (x:St):Option St:=match A3 b x.h,A3 c x.h with
 |some (.mm g (some s) e sz),some (.grow es e' sz')=>bif Nat.beq e e'&&Nat.beq sz sz'&&!Nat.beq b c then some ⟨Ih (H5 b) x.s,B1 b (.mm (Fd g s es) none e sz) (E0 b (Cr c x.h)),x.nx⟩ else none
 |_,_=>none
noncomputable def Q4c (b:Nat) (h:AH):Option (List UInt8):=match A3 b h with
 |some (.mm _ (some s) _ _)=>some s
 |_=>none
theorem Lv {m:List (List UInt8 × Value)} {k j:List UInt8} {a:Value} (hne:j≠k):Bj (Es m k a) j=Bj m j:=Y3r m k j a hne
theorem Uq {rest:List Oper} {t kt et:TypeId} {X I Y:Operand} {dst:Option Tmp} {ty:TypeId} {ps:String} {af:Array Edge} {g:Option (Nat × Bool)} {b c:Nat} {s s1:List UInt8} {s':Fr}
  (hg:Cp ops x.s g=true) (hX:evA x.s X=some (.map b)) (hI:evA x.s I=some (.str s)) (hY:evA x.s Y=some (.own c)) (hq:Q4c b x.h=some s1) (hs1:s1=s) (ht:P.underlying t=some (.map kt et)) (hk:P.underlying kt=some .string)
  (hy:Q0y b c x=some y) (hp:B3 n dst (.tup []) y.s=some s') (next:SO P n ops rest B F K ⟨s',y.h,y.nx⟩):SO P n ops (⟨dst,.mapUpdate t X I Y,ty,ps,af,g⟩::rest) B F K x:=by
 obtain rfl:s=s1:=hs1.symm;intro φ σ w hx;unfold Q0y at hy;split at hy
 ·rename_i gg s0 e sz es e' sz' hb hc;obtain⟨q,hy⟩:=Dy hy;cases hy;simp only[Bool.and_eq_true,Bool.not_eq_true'] at q;obtain⟨⟨q2,q3⟩,q4⟩:=q;unfold Q4c at hq;rw[hb] at hq;cases hq;have:=Nat.eq_of_beq_eq_true q2;subst this;have:=Nat.eq_of_beq_eq_true q3;subst this
  have hbc:b≠c:=by rintro rfl;rw[Nat.beq_refl] at q4;cases q4
  have v1:=hx.fr.ev _ _ hX;have v2:=hx.fr.ev _ _ hI;have v3:=hx.fr.ev _ _ hY;simp only[VR] at v1 v2 v3;obtain⟨x0,κ,e0,v1⟩:=v1;obtain⟨hsc,_⟩:=v3;obtain⟨x1,κ1,ens,clk,m,h1,h2,h3,h4,h5,h6,h7,h8,h9⟩:=hx.rel.obj b _ hb;rw[e0] at h1;cases h1;obtain⟨v,vs,a1,a2,a3,a4⟩:=hx.rel.obj c _ hc;rw[hsc] at a1;have a1:=Option.some.inj a1
  have hm:MapIs w x0 (Ds S id m):=⟨ens,clk,h2,h3⟩
  obtain⟨w',o,u1,u2,u3⟩:=X17 (Lg hk) ht w x0 m s (ev n σ Y) h4 hm;have hxi:img φ b (.mm gg (some s) e sz) x0:=.inl (by rw[e0];rfl)
  have hci:∀k,(ev n σ Y).ownBlock=some k→img φ c (.grow es e sz) k:=fun k hk=>by simp only[img,hsc,Option.bind_some];exact hk
  have hin:∀{t u k},Bj m t=some u→t≠s→u.ownBlock=some k→img φ b (.mm gg (some s) e sz) k:=by
   intro t u k hu hts hk;obtain⟨l,b1,b2⟩:=Sf (hole:=some s) h4 hu (by simpa using hts);exact .inr ⟨l,by rw[h5,b1],u,b2,hk⟩
  have hvx:(ev n σ Y).ownBlock≠some x0:=fun q=>hbc (hx.rel.sep b c _ _ x0 hb hc hxi (hci x0 q));have hput:=h4.put s (ev n σ Y);obtain⟨ens',clk',g2,g3⟩:=u3;have t1:=Nu φ b (Gj none (Es m s (ev n σ Y)))
  have hbd:A3 b (Cr c x.h)=some (.mm gg (some s) e sz):=by rw[Hq hbc];exact hb
  have hbel:Bel B w':=hx.rel.below.to u2.os u2.tape u2.output (by rw[u2.size];exact Nat.le_refl _) (fun k hk=>u2.block k (by rintro rfl;exact(hx.rel.gf b _ _ hb hxi).1 hk))
  have r1:Rel B (φ.setS b (Gj none (Es m s (ev n σ Y)))) (B1 b (.mm (Fd gg s es) none e sz) (E0 b (Cr c x.h))) w':=by
   have r0:Rel B φ (Cr c x.h) w:=hx.rel.del c;refine r0.turnO hbd t1 rfl hbel (by rw[u2.size];exact Nat.le_refl _) (fun k _ hki=>u2.block k (by rintro rfl;exact hki hxi)) ?_ ?_
   ·refine⟨x0,κ,ens',clk',Es m s (ev n σ Y),e0,g2,g3,hput,Jg _ _ _,fun t u hu _=>?_,fun t ht=>?_,fun t u hu _=>?_,fun t t' u u' k hu hu' _ _ hk hk'=>?_⟩
    ·by_cases hts:t=s
     ·subst hts;rw[O3] at hu;cases hu;have hu1:Fd gg t es t=es:=if_pos rfl;rw[hu1];refine⟨vs,?_,a3,a4⟩;rw[a1];exact Jm a2 (fun j hj=>u2.block j (by rintro rfl;exact hvx (by rw[a1];exact hj)))
     ·rw[Lv hts] at hu;obtain⟨us,p1,p2,p3⟩:=h6 t u hu (by simpa using hts);refine⟨us,?_,?_,p3⟩
      ·simp only[Fd,if_neg hts];exact Jm p1 (fun j hj=>u2.block j (by rintro rfl;exact h8 t u hu (by simpa using hts) hj))
      ·simp only[Fd,if_neg hts];exact p2
    ·by_cases hts:t=s
     ·subst hts;rw[O3] at ht;cases ht
     ·rw[Lv hts] at ht;simp only[Fd,if_neg hts];exact h7 t ht
    ·by_cases hts:t=s
     ·subst hts;rw[O3] at hu;cases hu;exact hvx
     ·rw[Lv hts] at hu;exact h8 t u hu (by simpa using hts)
    ·by_cases hts:t=s<;>by_cases hts':t'=s
     ·rw[hts,hts']
     ·subst hts;rw[O3] at hu;cases hu;rw[Lv hts'] at hu';exact absurd (hx.rel.sep b c _ _ k hb hc (hin hu' hts' hk') (hci k hk)) hbc
     ·subst hts';rw[O3] at hu';cases hu';rw[Lv hts] at hu;exact absurd (hx.rel.sep b c _ _ k hb hc (hin hu hts hk) (hci k hk')) hbc
     ·rw[Lv hts] at hu;rw[Lv hts'] at hu';exact h9 t t' u u' k hu hu' (by simpa using hts) (by simpa using hts') hk hk'
   ·intro k hk
    have hcase:img φ b (.mm gg (some s) e sz) k∨img φ c (.grow es e sz) k:=by
     rcases hk with hk|⟨l,hl,u,hu,hk⟩
     ·exact .inl (.inl hk)
     ·rw[Jg] at hl;obtain⟨t,p1,_⟩:=Vv hput (Option.some.inj hl) hu;by_cases hts:t=s
      ·subst hts;rw[O3] at p1;cases p1;exact .inr (hci k hk)
      ·rw[Lv hts] at p1;exact .inl (hin p1 hts hk)
    rcases hcase with hki|hki
    ·have hg:=hx.rel.gf b _ k hb hki;exact⟨hg.1,by rw[u2.size];exact hg.2.1,hg.2.2,fun c' o1 hc' e1 i=>hc' (hx.rel.sep c' b o1 _ k (D6 e1).2 hb i hki)⟩
    ·have hg:=hx.rel.gf c _ k hc hki;exact⟨hg.1,by rw[u2.size];exact hg.2.1,hg.2.2,fun c' o1 hc' e1 i=>(D6 e1).1 (hx.rel.sep c' c o1 _ k (D6 e1).2 hc i hki)⟩
  refine Hd (Cs hx.fr hg) (w':=w') ?_ (next _ _ w' ⟨(P7 t1 hx.fr).put hp L4,r1,fun c' hc'=>⟨(hx.dom c' hc').1,?_⟩,hx.old,hx.new,hx.base⟩)
  ·have u1':(Instr.mapUpdate t (.map (some x0)) (S s) (ev n σ Y)).run P w = .ok () w':=u1;simp[execOp,v1,v2,u1',go_sem]
  ·show(if c'=b then _ else _)=_;rw[if_neg (by rintro rfl;rw[(hx.dom _ hc').1] at e0;cases e0)];exact(hx.dom c' hc').2
 ·cases hy
theorem Q8w {rest:List Oper} {t kt et:TypeId} {X I:Operand} {dst:Option Tmp} {ty:TypeId} {ps:String} {af:Array Edge} {g:Option (Nat × Bool)} {z:Value} {G:List UInt8→AV} {s:List UInt8} {s':Fr}
  (hg:Cp ops x.s g=true) (hX:evA x.s X=some (.smap z G)) (hI:evA x.s I=some (.str s)) (ht:P.underlying t=some (.map kt et)) (hk:P.underlying kt=some .string) (hz:∀w,(zeroValue et).run P w = .ok z w)
  (hp:B3 n dst (G s) x.s=some s') (next:SO P n ops rest B F K ⟨s',x.h,x.nx⟩):SO P n ops (⟨dst,.lookup t X I false,ty,ps,af,g⟩::rest) B F K x:=by
 intro φ σ w hx;have v1:=hx.fr.ev _ _ hX;have v2:=hx.fr.ev _ _ hI;simp only[VR] at v1 v2;obtain⟨x0,es,clk,m,v1,h2,h3,h4⟩:=v1
 have hm:MapIs w x0 (Ds S id m):=⟨es,clk,hx.rel.fro _ _ h2,h3⟩
 refine B8 (Cs hx.fr hg) (Uu (enc:=S) (val:=id) (k:=s) (m:=m) v1 v2 hm (Lg hk) ht hz) (next _ _ w ⟨hx.fr.put hp ?_,hx.rel,hx.dom,hx.old,hx.new,hx.base⟩);have h5:=h4 s
 cases hl:Bj m s with
 |none=>simp only[Option.map_none,Option.getD_none];exact(h5.2 hl).mono (Phi.le_fz φ)
 |some u=>simp only[Option.map_some,Option.getD_some,id];exact(h5.1 u hl).mono (Phi.le_fz φ)
end
section
variable {P : Program} {B : Bas} {w : World} {F F0 : Cx} {n : Nat} {φ : Phi} {σ : Nat → Value} {K : Exit → St → Prop} {x y : St} {ops : Array Oper}
theorem Rel.setO {B:Bas} {w w':World} {φ:Phi} {h:AH} (r:Rel B φ h w) {b:Nat} {o o':AO} (hb:A3 b h=some o) (hbel:Bel B w') (hsz:w.heap.size≤w'.heap.size)
  (hkeep:∀k,k < w.heap.size→¬img φ b o k→w'.heap[k]? = w.heap[k]?) (ha:At B φ w' b o') (hi:∀k,img φ b o' k→img φ b o k):Rel B φ (B1 b o' h) w':=by
 have h1:Rel B φ (Cr b h) w':=(r.del b).frame (fun c o1 e=>SameO.of_le (Phi.le_refl φ) (r.obj c o1 (D6 e).2)) hbel hsz
  (fun c o1 e=>by rw[hkeep c (Dl (r.fro c o1 e)) (fun i=>by rw[(r.gf b o c hb i).2.2] at e;cases e)];exact r.fro c o1 e)
  (fun c o1 k e i=>by
   have e':=D6 e
   exact⟨hkeep k (r.gf c o1 k e'.2 i).2.1 (fun j=>e'.1 (r.sep c b o1 o k e'.2 hb i j)),(r.gf c o1 k e'.2 i).2.2⟩)
 have h2:Rel B φ (B1 b o' (Cr b h)) w':=h1.add ha fun k hk=>by
  have hg:=r.gf b o k hb (hi k hk);exact⟨hg.1,Nat.lt_of_lt_of_le hg.2.1 hsz,hg.2.2,fun c o1 hc e i=>hc (r.sep c b o1 o k (D6 e).2 hb i (hi k hk))⟩
 refine h2.congr fun c=>?_;by_cases hc:c=b
 ·subst hc;rw[Iz,Iz]
 ·rw[Hp _ hc,Hp _ hc,Hq hc]
theorem Ng {rest:List Oper} {t:TypeId} {X I:Operand} {dst:Option Tmp} {ty:TypeId} {ps:String} {af:Array Edge} {g:Option (Nat × Bool)} {b e sz i:Nat} {k:IntKind} {es:List AV} {s':Fr}
  (hg:Cp ops x.s g=true) (hX:evA x.s X=some (.own b)) (hI:evA x.s I=some (.int k (i:Int))) (hb:A3 b x.h=some (.grow es e sz)) (he:Fj P t=some e) (hs:tsz P e=some sz) (hi:i < es.length)
  (hp:B3 n dst (.op b (i*sz)) x.s=some s') (next:SO P n ops rest B F K ⟨s',x.h,x.nx⟩):SO P n ops (⟨dst,.indexAddr t X I,ty,ps,af,g⟩::rest) B F K x:=by
 intro φ σ w hx;have v1:=hx.fr.ev _ _ hX;have v2:=hx.fr.ev _ _ hI;simp only[VR] at v1 v2;obtain⟨v,vs,a1,a2,a3,a4⟩:=hx.rel.obj b _ hb;rw[v1.1] at a1;have a1:=Option.some.inj a1;rcases a2.2 with⟨rfl,hn⟩|⟨gb,cap,cur,hv,_⟩
 ·omega
 ·rw[←a1] at hv;refine B8 (Cs hx.fr hg) (v:=.pointer (some ⟨gb,i*sz,none⟩)) ?_ (next _ _ w ⟨hx.fr.put hp ?_,hx.rel,hx.dom,hx.old,hx.new,hx.base⟩)
  ·have h1:(0:Int)≤(i:Int)∧(i:Int) < (es.length:Int):=by omega
   simp[execOp,Instr.indexAt,asIntOf,hv,v2,run_underlying (Ef he),C4 hs,h1,hi,Q4l,go_sem]
  ·simp only[VR];exact⟨_,gb,v1.1,by rw[hv];rfl,rfl⟩
noncomputable def Q18 (P:Program) (s f:Nat):Option Nat:=match P.underlying s with
 |some (.struct fields)=>match fields.toList[f]? with
  |some fd=>match tsz P fd.type with
   |some (_+1)=>some fd.offset
   |_=>none
  |none=>none
 |_=>none
theorem Gy {rest:List Oper} {s:TypeId} {X:Operand} {f:Nat} {dst:Option Tmp} {ty:TypeId} {ps:String} {af:Array Edge} {g:Option (Nat × Bool)} {b o off:Nat} {s':Fr}
  (hg:Cp ops x.s g=true) (hX:evA x.s X=some (.op b o)) (hf:Q18 P s f=some off)
  (hp:B3 n dst (.op b (o+off)) x.s=some s') (next:SO P n ops rest B F K ⟨s',x.h,x.nx⟩):SO P n ops (⟨dst,.fieldAddr s X f,ty,ps,af,g⟩::rest) B F K x:=by
 intro φ σ w hx;have v1:=hx.fr.ev _ _ hX;simp only[VR] at v1;obtain⟨hd,k,e1,e2,hv⟩:=v1;unfold Q18 at hf;split at hf
 ·rename_i fields hs;split at hf
  ·rename_i fd hfd;split at hf
   ·rename_i m hm;cases hf
    have hfd':fields[f]? = some fd:=by simpa using hfd
    refine B8 (Cs hx.fr hg) (v:=.pointer (some ⟨k,o+fd.offset,none⟩)) ?_ (next _ _ w ⟨hx.fr.put hp ?_,hx.rel,hx.dom,hx.old,hx.new,hx.base⟩)
    ·simp[execOp,hv,Instr.fieldAt,Instr.sureAddr,fieldPlace,run_underlying hs,hfd',C4 hm,Fb,go_sem]
    ·simp only[VR];exact⟨hd,k,e1,e2,rfl⟩
   ·cases hf
  ·cases hf
 ·cases hf
theorem Qm {vs:List Value} {sz i j:Nat} {v u:Value} (h:∀u∈vs,u.cells.size=sz) (hv:vs[i]? = some v) (hj:v.cells.toList[j]? = some u):(vs.flatMap fun u=>u.cells.toList)[i*sz+j]? = some u:=by
 obtain⟨hi,rfl⟩:=List.getElem?_eq_some_iff.1 hv
 have hj':j < sz:=by have:=(List.getElem?_eq_some_iff.1 hj).1;rw[Array.length_toList,h _ (List.getElem_mem hi)] at this;exact this
 rw[List.flatMap_def,Qn (sz:=sz) (vs.map fun u=>u.cells.toList) i j (fun c hc=>by obtain⟨v,hv,rfl⟩:=List.mem_map.1 hc;rw[Array.length_toList];exact h v hv) (by rw[List.length_map];exact hi) hj'];rw[show nth (vs.map fun u=>u.cells.toList) i=(vs[i]).cells.toList by simp[nth,hi]];exact hj
noncomputable def Q17 (P:Program) (t:TypeId) (a:AV) (j:Nat):Option AV:=bif Et a then none else match Hz P t with
 |some true=>match tsz P t with
  |some m=>bif Nat.ble (j+m) (cellsOf a).length then some (.agg (((cellsOf a).drop j).take m)) else none
  |none=>none
 |some false=>(cellsOf a)[j]?
 |none=>none
theorem Ur {rest:List Oper} {t:TypeId} {X:Operand} {dst:Option Tmp} {ty:TypeId} {ps:String} {af:Array Edge} {g:Option (Nat × Bool)} {b e sz i j o:Nat} {es:List AV} {a r:AV} {s':Fr}
  (hg:Cp ops x.s g=true) (hX:evA x.s X=some (.op b o)) (ho:o=i*sz+j) (hb:A3 b x.h=some (.grow es e sz)) (ha:es[i]? = some a) (hl:Q17 P t a j=some r)
  (hp:B3 n dst r x.s=some s') (next:SO P n ops rest B F K ⟨s',x.h,x.nx⟩):SO P n ops (⟨dst,.load t X,ty,ps,af,g⟩::rest) B F K x:=by
 subst ho;intro φ σ w hx;have v1:=hx.fr.ev _ _ hX;simp only[VR] at v1;obtain⟨hd,k,e1,e2,hv⟩:=v1;obtain⟨v,vs,a1,a2,a3,a4⟩:=hx.rel.obj b _ hb;rw[e1] at a1;cases a1;obtain⟨u,hu,hua⟩:=a3.get ha
 have hcell:∀q z,u.cells.toList[q]? = some z→w.cell? ⟨k,i*sz+q,none⟩=some z:=fun q z hz=>by
  have:=a2.cells e2 _ _ (Qm (fun u hu=>(a4 u hu).1) hu hz);rwa [Fb,Nat.zero_add] at this
 unfold Q17 at hl
 cases hagg:Et a with
 |true=>rw[hagg] at hl;cases hl
 |false =>
  rw[hagg,cond_false] at hl;have hc:=hua.cells hagg;split at hl
  ·rename_i hat;split at hl
   ·rename_i m hm;obtain⟨h3,h4⟩:=Eo (f:=none) hl;cases h4;have hle:=Dx h3;have hlen:=hc.length
    have hus:((u.cells.toList.drop j).take m).length=m:=by simp only[List.length_take,List.length_drop];omega
    have hrun:=run_loadCells_list (P:=P) w ⟨k,i*sz+j,none⟩ ((u.cells.toList.drop j).take m) (fun q z hz=>by
     rw[Fb,Nat.add_assoc];refine hcell _ _ ?_;obtain⟨hlt,_⟩:=List.getElem?_eq_some_iff.1 hz;rw[List.getElem?_take_of_lt (by simp at hlt;omega),List.getElem?_drop] at hz
     exact hz)
    rw[hus] at hrun;refine B8 (Cs hx.fr hg) (v:=.agg ((u.cells.toList.drop j).take m).toArray) ?_ (next _ _ w ⟨hx.fr.put hp ?_,hx.rel,hx.dom,hx.old,hx.new,hx.base⟩)
    ·simp only[execOp,hv,Instr.loadAt,Instr.sureAddr,Sem.run_bind,Sem.run_pure,Result.andThen_ok,loadVar,Kw hat,if_true,C4 hm,hrun]
    ·simp only[VR];exact⟨_,((hc.drop j).take m).mono (Phi.le_fz φ),rfl⟩
   ·cases hl
  ·rename_i hat;obtain⟨z,h1,h2⟩:=hc.get hl;refine B8 (Cs hx.fr hg) (v:=z) ?_ (next _ _ w ⟨hx.fr.put hp (h2.mono (Phi.le_fz φ)),hx.rel,hx.dom,hx.old,hx.new,hx.base⟩);have:=hcell _ _ h1;simp[execOp,hv,Instr.loadAt,Instr.sureAddr,loadVar,Kw hat,this,go_sem]
  ·cases hl
theorem X75 {sz:Nat} {vs:List Value} (i:Nat) (v:Value) (h:∀u∈vs,u.cells.size=sz) (hi:i < vs.length) :
  ((vs.set i v).flatMap fun u=>u.cells.toList)=((vs.flatMap fun u=>u.cells.toList).take (i*sz)++v.cells.toList)++(vs.flatMap fun u=>u.cells.toList).drop (i*sz+sz):=by
 have hvs:vs=vs.take i++vs[i]::vs.drop (i+1):=by
  rw[List.getElem_cons_drop,List.take_append_drop]
 have hA:((vs.take i).flatMap fun u=>u.cells.toList).length=i*sz:=by
  rw[Hs (fun u hu=>h u (List.mem_of_mem_take hu)),List.length_take,Nat.min_eq_left (by omega)]
 have hM:(vs[i]).cells.toList.length=sz:=by rw[Array.length_toList];exact h _ (List.getElem_mem hi)
 have hfl:(vs.flatMap fun u=>u.cells.toList)=((vs.take i).flatMap fun u=>u.cells.toList)++((vs[i]).cells.toList++(vs.drop (i+1)).flatMap fun u=>u.cells.toList):=by
  conv=>lhs;rw[hvs]
  rw[List.flatMap_append,List.flatMap_cons]
 rw[List.set_eq_take_append_cons_drop,if_pos hi,List.flatMap_append,List.flatMap_cons,hfl]
 have hd:(((vs.take i).flatMap fun u=>u.cells.toList)++((vs[i]).cells.toList++(vs.drop (i+1)).flatMap fun u=>u.cells.toList)).drop (i*sz+sz)=(vs.drop (i+1)).flatMap fun u=>u.cells.toList:=by
  rw[←List.append_assoc];exact List.drop_left' (by rw[List.length_append,hA,hM])
 rw[List.take_left' hA,hd,List.append_assoc]
theorem Zz {α:Type} {A us D rest Y:List α} {j m:Nat} (hY:Y.length=m) (hj:j+m≤us.length) :
  ((A++(us++D))++rest).take (A.length+j)++Y++((A++(us++D))++rest).drop (A.length+j+m)=(A++(((us.take j++Y)++us.drop (j+m))++D))++rest:=by
 rw[List.append_assoc A,List.append_assoc us,List.take_append,List.take_of_length_le (Nat.le_add_right _ _),Nat.add_sub_cancel_left,List.take_append_of_le_length (by omega),
  Nat.add_assoc,List.drop_append,List.drop_of_length_le (Nat.le_add_right _ _),Nat.add_sub_cancel_left,List.drop_append_of_le_length hj]
 simp
noncomputable def Q16 (P:Program) (t:TypeId) (a v:AV) (j:Nat):Option AV:=match a,tsz P t with
 |.agg l,some m=>bif Nat.beq (cellsOf v).length m&&!Et v&&Nat.ble (j+m) l.length&&frzl (cellsOf v)&&ones (cellsOf v) then some (.agg ((l.take j++cellsOf v)++l.drop (j+m))) else none
 |_,_=>none
theorem J3 {rest:List Oper} {t:TypeId} {X Y:Operand} {dst:Option Tmp} {ty:TypeId} {ps:String} {af:Array Edge} {g:Option (Nat × Bool)} {b e sz i j o:Nat} {es:List AV} {a v r:AV} {s':Fr}
  (hg:Cp ops x.s g=true) (hX:evA x.s X=some (.op b o)) (ho:o=i*sz+j) (hY:evA x.s Y=some v) (hb:A3 b x.h=some (.grow es e sz)) (ha:es[i]? = some a) (hr:Q16 P t a v j=some r)
  (hp:B3 n dst (.tup []) x.s=some s') (next:SO P n ops rest B F K ⟨s',B1 b (.grow (es.set i r) e sz) x.h,x.nx⟩):SO P n ops (⟨dst,.store t X Y,ty,ps,af,g⟩::rest) B F K x:=by
 subst ho;intro φ σ w hx;have v1:=hx.fr.ev _ _ hX;have v2:=hx.fr.ev _ _ hY;simp only[VR] at v1;obtain⟨hd,k,e1,e2,hv⟩:=v1;obtain⟨v0,vs,a1,a2,a3,a4⟩:=hx.rel.obj b _ hb;rw[e1] at a1;cases a1;obtain⟨u,hu,hua⟩:=a3.get ha;unfold Q16 at hr;split at hr
 ·rename_i l m hm;obtain⟨hc,h4⟩:=Eo (f:=none) hr;cases h4;simp only[Bool.and_eq_true,Bool.not_eq_true'] at hc;obtain⟨⟨⟨⟨c1,c2⟩,c3⟩,c4⟩,c5⟩:=hc;have c3':=Dx c3;have hcells:=v2.cells c2;have hm':=Nat.eq_of_beq_eq_true c1
  have hlen:(ev n σ Y).cells.size=m:=by have:=hcells.length;simp only[Array.length_toList] at this;omega
  simp only[VR] at hua;obtain⟨us,h5,rfl⟩:=hua;obtain⟨hi,hui⟩:=List.getElem?_eq_some_iff.1 hu
  have hmem:Value.agg us.toArray∈vs:=by rw[←hui];exact List.getElem_mem hi
  have hus:us.length=sz:=by have:=(a4 _ hmem).1;simpa [Value.cells] using this
  have hl5:=h5.length;have hones:=hcells.ones c5;rcases a2.2 with⟨rfl,hn⟩|⟨gb,cap,cur,rfl,g1,g2,g3,g4,g5,g6⟩
  ·simp[Value.ownBlock] at e2
  ·have:gb=k:=by simpa [Value.ownBlock] using e2
   subst this;have hne:=a3.length;have hcap:(i+1)*sz≤cap*sz:=Nat.mul_le_mul_right sz (by omega)
   have e3:(i+1)*sz=i*sz+sz:=by rw[Nat.add_mul,Nat.one_mul]
   have hyl:(ev n σ Y).cells.toList.length=m:=by rw[Array.length_toList];exact hlen
   have hrun:=run_storeCells_at P gb (i*sz+j) e (ev n σ Y).cells.toList 0 cur w g2 (by omega) hones;rw[hyl,Nat.add_zero] at hrun
   have hst:(Instr.storeAt t (.pointer (some ⟨gb,i*sz+j,none⟩)) (ev n σ Y)).run P w=(storeCells ⟨gb,i*sz+j,none⟩ (ev n σ Y).cells.toList).run P w:=by
    simp only[Instr.storeAt,Instr.sureAddr,Sem.run_bind,Sem.run_pure,Result.andThen_ok,storeVar,C4 hm];rw[if_neg (by simp[hlen])]
   obtain⟨C,hC⟩:∃C,cur.toList.take (i*sz+j)++(ev n σ Y).cells.toList++cur.toList.drop (i*sz+j+m)=C:=⟨_,rfl⟩
   rw[hC] at hrun;have hrun':=hst.trans hrun
   have hnew:VR φ.fz (.agg ((l.take j++cellsOf v)++l.drop (j+m))) (.agg (((us.take j++(ev n σ Y).cells.toList)++us.drop (j+m))).toArray):=by
    simp only[VR];exact⟨_,((h5.take j).append (VRl.fz hcells c4)).append (h5.drop _),rfl⟩
   have hnl:((us.take j++(ev n σ Y).cells.toList)++us.drop (j+m)).length=sz:=by simp only[List.length_append,List.length_take,List.length_drop];omega
   have hsz:∀u∈vs,u.cells.size=sz:=fun u hu=>(a4 u hu).1;have hiv:i < vs.length:=hi;have hlv:es.length=vs.length:=a3.length.symm;have hfl:=Hs hsz
   have hvs:vs=vs.take i++vs[i]::vs.drop (i+1):=by
    rw[List.getElem_cons_drop,List.take_append_drop]
   have hA:((vs.take i).flatMap fun u=>u.cells.toList).length=i*sz:=by
    rw[Hs (fun u hu=>hsz u (List.mem_of_mem_take hu)),List.length_take,Nat.min_eq_left (by omega)]
   have hthree:(vs.flatMap fun u=>u.cells.toList)=((vs.take i).flatMap fun u=>u.cells.toList)++(us++(vs.drop (i+1)).flatMap fun u=>u.cells.toList):=by
    conv=>lhs;rw[hvs]
    rw[List.flatMap_append,List.flatMap_cons,hui];simp[Value.cells]
   have hcur:cur.toList=(((vs.take i).flatMap fun u=>u.cells.toList)++(us++(vs.drop (i+1)).flatMap fun u=>u.cells.toList))++cur.toList.drop (es.length*sz):=by
    rw[←hthree,←g6,List.take_append_drop]
   have hCC:C=(((vs.take i).flatMap fun u=>u.cells.toList)++((((us.take j++(ev n σ Y).cells.toList)++us.drop (j+m)))++(vs.drop (i+1)).flatMap fun u=>u.cells.toList))++cur.toList.drop (es.length*sz):=by
    rw[←hC]
    conv=>lhs;rw[hcur,←hA]
    exact Zz hyl (by omega)
   have hset:((vs.set i (.agg (((us.take j++(ev n σ Y).cells.toList)++us.drop (j+m))).toArray)).flatMap fun u=>u.cells.toList)=((vs.take i).flatMap fun u=>u.cells.toList)++((((us.take j++(ev n σ Y).cells.toList)++us.drop (j+m)))++(vs.drop (i+1)).flatMap fun u=>u.cells.toList):=by
    rw[List.set_eq_take_append_cons_drop,if_pos hiv,List.flatMap_append,List.flatMap_cons];simp[Value.cells]
   have hclen:C.length=cap*sz:=by
    have:cur.toList.length=cap*sz:=by rw[Array.length_toList];exact g5
    rw[←hC];simp only[List.length_append,List.length_take,List.length_drop];omega
   have hat:At B φ (w.setRow gb C.toArray) b (.grow (es.set i (.agg ((l.take j++cellsOf v)++l.drop (j+m)))) e sz):=by
    refine⟨_,vs.set i (.agg (((us.take j++(ev n σ Y).cells.toList)++us.drop (j+m))).toArray),e1,?_,VRl.set i a3 hnew,fun z hz=>?_⟩
    ·rw[List.length_set];refine⟨?_,.inr ⟨gb,cap,C.toArray,rfl,Nat.zero_le _,setRow_heap w gb cur _ e _ g2,g3,g4,by simpa using hclen,?_⟩⟩
     ·rw[Hs (sz:=sz) (fun z hz=>?_),List.length_set,hlv];rcases List.mem_or_eq_of_mem_set hz with hz|rfl
      ·exact hsz z hz
      ·simpa [Value.cells] using hnl
     ·rw[hset,List.toList_toArray,hCC];refine List.take_left' ?_;have:=congrArg List.length hset;rw[←this,Hs (sz:=sz) (fun z hz=>?_),List.length_set,hlv];rcases List.mem_or_eq_of_mem_set hz with hz|rfl
      ·exact hsz z hz
      ·simpa [Value.cells] using hnl
    ·rcases List.mem_or_eq_of_mem_set hz with hz|rfl
     ·exact a4 z hz
     ·refine⟨by simpa [Value.cells] using hnl,fun c hc=>?_⟩;simp only[Value.cells,List.toList_toArray,List.mem_append] at hc;rcases hc with (hc|hc)|hc
      ·exact(a4 _ hmem).2 c (by simp only[Value.cells,List.toList_toArray];exact List.mem_of_mem_take hc)
      ·exact hones c hc
      ·exact(a4 _ hmem).2 c (by simp only[Value.cells,List.toList_toArray];exact List.mem_of_mem_drop hc)
   have hgi:img φ b (.grow es e sz) gb:=by simp only[img,e1,Option.bind_some];rfl
   have hrel:Rel B φ (B1 b (.grow (es.set i (.agg ((l.take j++cellsOf v)++l.drop (j+m)))) e sz) x.h) (w.setRow gb C.toArray):=by
    refine hx.rel.setO hb (hx.rel.below.to rfl rfl rfl ?_ fun q hq=>setRow_other w gb q _ ?_) ?_ (fun q _ hq=>setRow_other w gb q _ ?_) hat (fun k hk=>hk)
    ·simp
    ·rintro rfl;exact(hx.rel.gf b _ q hb hgi).1 hq
    ·simp
    ·rintro rfl;exact hq hgi
   refine Hd (Cs hx.fr hg) (w':=w.setRow gb C.toArray) ?_ (next φ _ _ ⟨hx.fr.put hp L4,hrel,hx.dom,hx.old,hx.new,hx.base⟩)
   have hrun2:(Instr.storeAt t (ev n σ X) (ev n σ Y)).run P w = .ok () (w.setRow gb C.toArray):=by rw[hv];exact hrun'
   exact Se hrun2
 ·cases hr
noncomputable def Vc (P:Program) (b j:Nat) (x:St):Option St:=match A3 b x.h with
 |some (.row cs e)=>match cs[j]? with
  |some a=>match Dk P x.h a with
   |some (r,h1)=>match A3 b h1 with
    |some (.row cs' e')=>bif Nat.beq e e'&&Nat.beq cs.length cs'.length then some ⟨x.s,B1 b (.row (cs'.set j r) e) h1,x.nx⟩ else none
    |_=>none
   |none=>none
  |none=>none
 |_=>none
theorem Holds.stillC {b j:Nat} (h:Holds B F n x φ σ w) (k:Vc P b j x=some y):∃φ',Holds B F n y φ' σ w:=by
 unfold Vc at k;split at k
 ·rename_i cs e hb;split at k
  ·rename_i a ha;split at k
   ·rename_i r h1 hr;split at k
    ·rename_i cs' e' hb';obtain⟨q,k⟩:=Dy k;cases k;simp only[Bool.and_eq_true] at q;have:=Nat.eq_of_beq_eq_true q.1;subst this;obtain⟨x0,κ,vs,a1,a2,a3⟩:=h.rel.obj b _ hb;obtain⟨v,hv,hva⟩:=a3.get ha;obtain⟨F',f1,f2,f3,f4⟩:=Tm hr B φ w _ h.rel (VRl.single hva);obtain⟨v',hv',f5⟩:=f4.single_inv;cases hv';obtain⟨x1,κ1,vs1,b1,b2,b3⟩:=f3.obj b _ hb';rw[show(Phi.m ⟨φ.m,φ.s,F'⟩) b=φ b from rfl,a1] at b1;cases b1;rw[a2] at b2;cases b2
     have hat:At B ⟨φ.m,φ.s,F'⟩ w b (.row (cs'.set j r) e):=⟨x0,κ,vs,a1,a2,b3.put hv (f5.mono (Phi.le_fz ⟨φ.m,φ.s,F'⟩))⟩
     exact⟨⟨φ.m,φ.s,F'⟩,fun t a e=>(h.fr t a e).mono (leF f1),f3.setO hb' f3.below (Nat.le_refl _) (fun _ _ _=>rfl) hat (fun k hk=>hk),h.dom,fun b o e=>f1 _ _ (h.old b o e),fun b o e=>(f2 b o e).elim (h.new b o) .inr,h.base⟩
    ·cases k
   ·cases k
  ·cases k
 ·cases k
theorem Jb {l:List Oper} (b j:Nat) (k:Vc P b j x=some y) (h:SO P n ops l B F K y):SO P n ops l B F K x:=fun φ σ w hx=>by
 obtain⟨φ',hh⟩:=hx.stillC k;exact h _ _ _ hh
end
section
variable {P : Program} {B : Bas} {w : World} {F F0 : Cx} {n : Nat} {φ : Phi} {σ : Nat → Value} {K : Exit → St → Prop} {KK : St → Prop} {x y : St} {E : Bool} {ops : Array Oper} {fuel : Nat} {listed : Array Bool}
theorem Y4o {o:Oper} {Q Q':Exit→(Nat→Value)→World→Prop} (hn:∀e σ w,Q e σ w→e = .normal) (hq:∀e σ w,Q e σ w→Q' e σ w) (h:WO P n ops [o] Q σ w):WO P n ops [o] Q' σ w:=by
 unfold WO wpList at h ⊢
 have ho:¬LetsOut (lift n Q):=by
  rintro⟨a,w,σ',_,h⟩;have:=hn _ _ _ h;cases this
 have hk:∀a w',wpList P ops (lift n Q) [] a w'→wpList P ops (lift n Q') [] a w':=by
  rintro a w' ⟨σ',rfl,h⟩;exact⟨σ',rfl,hq _ _ _ h⟩
 split at h
 ·rename_i hw;rw[if_pos hw];rcases h with h|⟨_,h⟩
  ·exact .inl (Ro hk (fun c a w hc=>by obtain⟨_,_,hc⟩:=hc;have:=hn _ _ _ hc;cases this) ho h)
  ·exact absurd h ho
 ·rename_i hw;rw[if_neg hw];exact hk _ _ h
theorem Ce (i:Nat) {o:Oper} (hi:ops[i]? = some o) (h:SO P n ops [o] B F0 (fun e y=>e = .normal∧SG P n ops B F KK F0 false fuel (listed.setIfInBounds i true) y) x):SN P n ops B F KK F0 E fuel listed i x:=by
 intro φ σ w hx hE;refine⟨o,hi,Y4o (by rintro e σ' w' ⟨y,φ',hy,rfl,hs⟩;rfl) ?_ (h φ σ w hx)⟩;rintro e σ' w' ⟨y,φ',hy,rfl,hs⟩;unfold SG at hs;exact⟨rfl,hy.hold,hs φ' σ' w' hy (fun q=>by cases q)⟩
theorem Yt {rest:List Oper} {f:FuncId} {ar:Array Operand} {ts:Array TypeId} {ty:TypeId} {ps:String} {dst:Option Tmp} {af:Array Edge} {g:Option (Nat × Bool)} {al al':List AV} {h':AH} {r:AV} {s':Fr} {q:Bool}
  (hg:Iy ops x.s g=some q) (he:Ai P f) (ha:Dw (Jd ar.toList (evA x.s)) ar.toList=some al) (hn:q=true→Bk (E7 (evA x.s) ar.toList)) (hz:frzVl P x.h al=some (al',h')) (hf:q=true→FnV P f al' r) (hr:Me r=true) (hp:B3 n dst (.cond q r) x.s=some s')
  (next:SO P n ops rest B F K ⟨s',x.h,x.nx⟩):SO P n ops (⟨dst,.call { callee:=.value (.func f),args:=ar,argTypes:=ts },ty,ps,af,g⟩::rest) B F K x:=by
 intro φ σ w hx;have hgk:=Mu hx.fr hg
 cases q with
 |false=>exact D9 hgk (next φ _ w ⟨hx.fr.put hp K0,hx.rel,hx.dom,hx.old,hx.new,hx.base⟩)
 |true =>
  obtain⟨F',f1,f2,f3,f4⟩:=frzVl_ok hz B φ w _ hx.rel (E4 (Nn hx.fr (hn rfl)) ha);refine Cv hgk he (hf rfl F' w _ f3.fro f4) ?_;rintro v w' ⟨hb,F'',h1,h2,h3,h4⟩;have hh:Holds B F n x φ σ w':=hx.called hb (fun _ _ e=>e) (fun b o e=>(hb.block b (Dl (hx.rel.fro b o e))).trans (hx.rel.fro b o e)) (fun _ _ e => .inl e);exact next _ _ _ ⟨hh.fr.put hp (Nf (Pw hr h4)),hh.rel,hh.dom,hh.old,hh.new,hh.base⟩
theorem Us {rest:List Oper} {t t':TypeId} {X:Operand} {dst:Option Tmp} {ty:TypeId} {ps:String} {af:Array Edge} {g:Option (Nat × Bool)} {sz m e:Nat} {G:Nat→AV} {nl:Operand}
  (hg:Cp ops x.s g=true) (hX:evA x.s X=some (.row sz m G)) (hN:evA x.s nl=some .nils) (ht:Fj P t=some e)
  (hp:∀q:Bool,∃s',B3 n dst (.bool q) x.s=some s'∧((q=true→m=0)→SO P n ops rest B F K ⟨s',x.h,x.nx⟩)):SO P n ops (⟨dst,.binOp .eql t X nl t',ty,ps,af,g⟩::rest) B F K x:=by
 intro φ σ w hx;have v1:=hx.fr.ev _ _ hX;have v2:=hx.fr.ev _ _ hN;simp only[VR] at v1 v2;obtain⟨u,hu,hr⟩:=v1;have hu':=Ef ht
 have run:∀(a:Option Addr) (l c:Nat),ev n σ X = .slice a l c→(execOp (ev n σ) ⟨dst,.binOp .eql t X nl t',ty,ps,af,g⟩).run P w = .ok (.value (.bool a.isNone)) w:=by
  intro a l c hv
  have heq:∀w,(Op.equal t (.slice a l c) (.slice none 0 0)).run P w = .ok a.isNone w:=by
   intro w;unfold Op.equal Op.maxDepth Op.equalIn;cases a<;>simp[run_underlying hu',go_sem]
  have hbin:∀w,(binOp .eql t (.slice a l c) (.slice none 0 0)).run P w = .ok (.bool a.isNone) w:=fun w=>by simp[binOp,heq,go_sem]
  simp only[execOp,hv,v2,Sem.run_bind,Qs w (op:=.eql) (t:=t) (x:=X) (y:=nl) (a:=.slice a l c) (b:=.slice none 0 0) (by simp) (by simp),Result.andThen_ok,hbin,Sem.run_pure]
 rcases hr with⟨h0,hv|⟨a,c,hv⟩⟩|⟨b,o,c,hv,_⟩
 ·obtain⟨s',h1,h2⟩:=hp true;exact B8 (Cs hx.fr hg) (run none 0 0 hv) (h2 (fun _=>h0) φ _ w ⟨hx.fr.put h1 (by simp only[VR];rfl),hx.rel,hx.dom,hx.old,hx.new,hx.base⟩)
 ·obtain⟨s',h1,h2⟩:=hp false;exact B8 (Cs hx.fr hg) (run (some a) 0 c hv) (h2 (fun e=>by cases e) φ _ w ⟨hx.fr.put h1 (by simp only[VR];rfl),hx.rel,hx.dom,hx.old,hx.new,hx.base⟩)
 ·obtain⟨s',h1,h2⟩:=hp false;exact B8 (Cs hx.fr hg) (run (some ⟨b,o,none⟩) m c hv) (h2 (fun e=>by cases e) φ _ w ⟨hx.fr.put h1 (by simp only[VR];rfl),hx.rel,hx.dom,hx.old,hx.new,hx.base⟩)
end
section
variable {P : Program} {B : Bas} {w : World} {F F0 : Cx} {n : Nat} {φ : Phi} {σ : Nat → Value} {K : Exit → St → Prop} {x y : St} {ops : Array Oper}
def Y6x (s:Fr) (t f:Nat) (cap:List AV):Prop:=Ck t s=some (.fn f [] cap)∨∃q,Ck t s=some (.cond q (.fn f [] cap))∧q=true
theorem Y5n {rest:List Oper} {t:Nat} {f:FuncId} {cap:List AV} {ar:Array Operand} {ts:Array TypeId} {ty:TypeId} {ps:String} {dst:Option Tmp} {af:Array Edge} {g:Option (Nat × Bool)} {al:List AV} {r:AV} {s':Fr} {q:Bool}
  (hg:Iy ops x.s g=some q) (hc:q=true→Y6x x.s t f cap) (he:Ai P f) (ha:Dw (Jd ar.toList (evA x.s)) ar.toList=some al) (hn:q=true→Bk (E7 (evA x.s) ar.toList)) (hz:frzl (al++cap)=true) (hf:q=true→FnV P f (al++cap) r) (hp:B3 n dst (.cond q r) x.s=some s')
  (next:SO P n ops rest B F K ⟨s',x.h,x.nx⟩):SO P n ops (⟨dst,.call { callee:=.value (.tmp t),args:=ar,argTypes:=ts },ty,ps,af,g⟩::rest) B F K x:=by
 intro φ σ w hx;have hgk:=Mu hx.fr hg
 cases q with
 |false=>exact D9 hgk (next φ _ w ⟨hx.fr.put hp K0,hx.rel,hx.dom,hx.old,hx.new,hx.base⟩)
 |true =>
  have hfn:VR φ (.fn f [] cap) (sl n σ t):=by
   rcases hc rfl with h|⟨q',h,hq⟩
   ·exact hx.fr _ _ h
   ·exact(hx.fr _ _ h).condT hq
  simp only[VR] at hfn;obtain⟨vf,vc,h1,h2,h3⟩:=hfn;have:=h1.nil_inv;subst this;have hv:=((E4 (Nn hx.fr (hn rfl)) ha).append h2).fz hz;refine Rb (x:=.tmp t) (cap:=vc.toArray) hgk h3 he (hf rfl φ.f w (List.map (ev n σ) ar.toList++vc) hx.rel.fro hv) ?_;rintro v w' ⟨hb,F',h1,h2,h3,h4⟩;have hh:=hx.called hb h1 h2 h3;exact next _ _ _ ⟨hh.fr.put hp (Nf (h4.mono (Phi.le_fz ⟨φ.m,φ.s,F'⟩))),hh.rel,hh.dom,hh.old,hh.new,hh.base⟩
end
theorem Imp.fp {a b:AV} (h:Imp a b):Imp (.fp a) (.fp b):=fun φ v k=>by
 simp only[VR] at k ⊢;obtain⟨c,o,u,e,k1,r⟩:=k;exact⟨c,o,u,e,h _ _ k1,r⟩
theorem Imp.aggs {l m:List AV} (h:∀φ vs,VRl φ l vs→VRl φ m vs):Imp (.agg l) (.agg m):=fun φ v k=>by
 simp only[VR] at k ⊢;obtain⟨vs,k1,e⟩:=k;exact⟨vs,h _ _ k1,e⟩
theorem Imp.tups {l m:List AV} (h:∀φ vs,VRl φ l vs→VRl φ m vs):Imp (.tup l) (.tup m):=fun φ v k=>by
 simp only[VR] at k ⊢;obtain⟨vs,k1,e⟩:=k;exact⟨vs,h _ _ k1,e⟩
theorem I6 (q:Bool) {G:Prop} (h1:q=true→G) (h0:q=false→G):G:=match q,h1,h0 with
 |true,h1,_=>h1 rfl
 |false,_,h0=>h0 rfl
section
variable {P : Program} {B : Bas} {F F0 : Cx} {n : Nat} {KK : St → Prop} {x x' : St} {E E' : Bool} {ops : Array Oper} {fuel fuel' : Nat} {listed listed' : Array Bool}
theorem Ci (E':Bool) (fuel':Nat) (listed':Array Bool) (x':St) (h:SG P n ops B F KK F0 E' fuel' listed' x') (k:SG P n ops B F KK F0 E' fuel' listed' x'→SG P n ops B F KK F0 E fuel listed x):SG P n ops B F KK F0 E fuel listed x:=k h
theorem Y5y (m:SG P n ops B F KK F0 E' fuel' listed' x') (hE:E'=E) (hf:fuel'=fuel) (hl:listed'=listed) (hx:x'=x):SG P n ops B F KK F0 E fuel listed x:=by
 subst hE;subst hf;subst hl;subst hx;exact m
end
end Sv
end Go.Proofs.YtglcebdfdehidaaGreatDoor
