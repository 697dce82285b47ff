/- The texts S12, S13, S14, S15, S16, S17, S18, S19, S20, S21, S22, S23, S24, S25, S26, S27, S28, S29, S30, S31, S32, S33, S34, S35, S36, S37, S38, DepV, NamV, Evr1, CmpV of the proof, joined. Each says at its theorems what it proves. -/
import Derived.Test.YtlmloohlmlahfaaGreatDoorV0
import Derived.OrdersHeld
import Derived.Laws.StructEq
import Derived.LoopN
import Derived.ScopeJumps
set_option linter.unusedSimpArgs false
set_option linter.unusedVariables false
namespace Go.Proofs.YtlmloohlmlahfaaGreatDoor
section
open Go Go.RowKit
namespace Sv
section
variable {P : Program} {φ : Phi} {B : Bas} {w : World} {h : AH}
theorem Xk {f:Nat→List Value} {sz:Nat}:∀(n:Nat),(∀i,i < n→(f i).length=sz)→((List.range n).flatMap f).length=n*sz∧∀j u,((List.range n).flatMap f)[j]? = some u→∃i k,i < n∧j=i*sz+k∧(f i)[k]? = some u
  |0,_=>by simp
  |n+1,h=>by
    obtain⟨h1,h2⟩:=Xk n (fun i hi=>h i (by omega))
    rw[List.range_succ,List.flatMap_append,List.flatMap_cons,List.flatMap_nil,List.append_nil]
    have hn:=h n (by omega)
    refine⟨by rw[List.length_append,h1,hn,Nat.add_mul,Nat.one_mul],fun j u hj=>?_⟩
    by_cases hlt:j < n*sz
    · rw[List.getElem?_append_left (by omega)] at hj
      obtain⟨i,k,a,b,c⟩:=h2 j u hj
      exact⟨i,k,by omega,b,c⟩
    · rw[List.getElem?_append_right (by omega),h1] at hj
      exact⟨n,j-n*sz,by omega,by omega,hj⟩
theorem flatMap_map {α β γ:Type} (f:α→β) (g:β→List γ) (l:List α):(l.map f).flatMap g=l.flatMap fun a=>g (f a):=by
  rw[List.flatMap_map]
theorem Q54 (l:List UInt8):(l.map fun c=>Value.int .u8 (c.toNat:Int)).flatMap (fun u=>u.cells.toList)=l.map fun c=>Value.int .u8 (c.toNat:Int):=by
  induction l with
  |nil=>rfl
  |cons a r ih=>simp only[List.map_cons,List.flatMap_cons,ih];rfl
theorem Q3f {φ:Phi}:∀l:List UInt8,VRl φ (l.map fun c=>AV.int .u8 (c.toNat:Int)) (l.map fun c=>Value.int .u8 (c.toNat:Int))
  |[] => .nil
  |a::r => .cons Hs (Q3f r)
theorem Q6g {sz tx m : Nat} {x : AV} {xv : Value} {news : List AV} (hs : R4 P sz tx x h = some (m, news)) (hx : VR φ x xv) (r : Rel B φ h w) :
    ∃us vs,Src P sz tx xv m us w∧VRl φ.fz news vs∧vs.length=m∧us=vs.flatMap (fun u=>u.cells.toList)∧∀u∈vs,u.cells.size=sz∧∀c∈u.cells.toList,c.oneCell'=true:=by
  unfold R4 at hs
  split at hs
  · rename_i b n c' op
    simp only[VR] at hx
    obtain⟨y,κ,hφ,hv⟩:=hx
    obtain⟨cc,hv⟩:∃cc,xv = .slice (some ⟨y,0,none⟩) n cc:=by
      rcases hv with⟨_,_,hv⟩|⟨_,hv⟩<;>exact⟨_,hv⟩
    subst hv
    split at hs
    · rename_i e he
      split at hs
      · rename_i c e' hb
        obtain⟨h3,h4⟩:=Eb (f:=none) hs
        cases h4
        simp only[Bool.and_eq_true] at h3
        obtain⟨⟨⟨c1,c2⟩,c3⟩,c4⟩:=h3
        have c1':=Nat.eq_of_beq_eq_true c1
        have c4':0 < sz:=by simpa [Nat.blt_eq] using c4
        obtain⟨vs,e1,e2⟩:=r.rowAt hb hφ
        have hl:=e2.length
        have hones:=e2.ones c3
        obtain⟨us,k1,k2,k3,k4⟩:=Q2 c4' m c vs.toList (VRl.fz e2 c2) (by omega) c3 hones
        refine⟨vs.toList,us,Src.ofSlice w (D1 he) ⟨y,0,none⟩ m cc vs.toList (by omega) (fun j u hj=>?_) hones,k1,k2,k4.symm,fun u hu=>⟨k3 u hu,fun c hc=>hones c (by rw[←k4];exact List.mem_flatMap.2 ⟨u,hu,hc⟩)⟩⟩
        rw[Eg,Nat.zero_add]
        simp[World.cell?,e1];simpa using hj
      · cases hs
    · cases hs
  · simp only[VR] at hx;subst hx
    split at hs
    · rename_i e he
      cases hs
      exact⟨[],[],Src.ofNil w (D1 he) 0,.nil,rfl,rfl,by simp⟩
    · cases hs
  · rename_i s n g
    simp only[VR] at hx
    obtain⟨u,hu,hr⟩:=hx
    split at hs
    · rename_i e he
      obtain⟨h3,h4⟩:=Eb (f:=none) hs
      cases h4
      have:=Nat.eq_of_beq_eq_true h3;subst this
      have hV:VRl φ.fz ((List.range m).map g) ((List.range m).map u):=VRl.of_range hu
      rcases hr with⟨rfl,rfl|⟨a,c,rfl⟩⟩|⟨b,o,c,rfl,_,hl⟩
      · exact⟨[],[],Src.ofNil w (D1 he) 0,.nil,rfl,rfl,by simp⟩
      · exact⟨[],[],Src.ofSlice w (D1 he) a 0 c [] (by simp) (by simp) (by simp),.nil,rfl,rfl,by simp⟩
      · have hsz:∀i,i < m→((u i).cells.toList).length=s:=fun i hi=>by rw[Array.length_toList];exact(hl i hi).1
        obtain⟨f1,f2⟩:=Xk (f:=fun i=>(u i).cells.toList) m hsz
        have hone:∀i,i < m→∀c∈(u i).cells.toList,c.oneCell'=true:=by
          intro i hi c hc
          obtain⟨cs,e',fr,_,q⟩:=(hl i hi).2
          obtain⟨k,hk⟩:=List.mem_iff_getElem?.1 hc
          exact(q k c hk).2
        refine⟨_,_,Src.ofSlice w (D1 he) ⟨b,o,none⟩ m c ((List.range m).flatMap fun i=>(u i).cells.toList) f1 (fun j v hj=>?_) ?_,hV,by simp,by rw[List.flatMap_map],?_⟩
        · obtain⟨i,k,hi,rfl,hk⟩:=f2 j v hj
          rw[Eg,←Nat.add_assoc]
          exact Ku r.fro (hl i hi).2 hk
        · intro v hv
          obtain⟨i,hi,hc⟩:=List.mem_flatMap.1 hv
          exact hone i (by simpa using hi) v hc
        · intro v hv
          obtain⟨i,hi,rfl⟩:=List.mem_map.1 hv
          exact⟨(hl i (by simpa using hi)).1,hone i (by simpa using hi)⟩
    · cases hs
  · rename_i b
    simp only[VR] at hx
    obtain⟨hφ,_⟩:=hx
    split at hs
    · rename_i e he
      split at hs
      · rename_i es e' s hb
        obtain⟨h3,h4⟩:=Eb (f:=none) hs
        cases h4
        have:=Nat.eq_of_beq_eq_true h3;subst this
        obtain⟨v,vs,q1,q2,q3,q4⟩:=r.obj b _ hb
        rw[hφ] at q1;cases q1
        have hlen:=q3.length
        refine⟨_,vs,?_,q3,hlen,rfl,q4⟩
        have hone:∀c∈(vs.flatMap fun u=>u.cells.toList),c.oneCell'=true:=by
          intro c hc
          obtain⟨v,hv,hc⟩:=List.mem_flatMap.1 hc
          exact(q4 v hv).2 c hc
        have hown:=q2
        rcases q2.2 with⟨rfl,hn⟩|⟨g,cap,cur,rfl,_⟩
        · rw[hn] at hlen ⊢
          have:vs=[]:=List.eq_nil_of_length_eq_zero hlen
          subst this
          exact Src.ofNil w (D1 he) 0
        · exact Src.ofSlice w (D1 he) ⟨g,0,none⟩ _ cap _ (by rw[Iz (fun u hu=>(q4 u hu).1),hlen]) (hown.cells rfl) hone
      · cases hs
    · cases hs
  · rename_i l
    simp only[VR] at hx;subst hx
    obtain⟨h3,h4⟩:=Eb (f:=none) hs
    cases h4
    simp only[Bool.and_eq_true] at h3
    have:=Nat.eq_of_beq_eq_true h3.2;subst this
    have hbc:byteCells (⟨l.toArray⟩:ByteArray)=l.map fun c=>Value.int .u8 (c.toNat:Int):=by simp[byteCells]
    have hS:=Src.ofString (P:=P) w (O3 h3.1) ⟨l.toArray⟩
    rw[show(⟨l.toArray⟩:ByteArray).size=l.length by simp[ByteArray.size],hbc] at hS
    refine⟨_,l.map fun c=>Value.int .u8 (c.toNat:Int),hS,?_,by simp,(Q54 l).symm,?_⟩
    · exact Q3f l
    · intro u hu
      obtain⟨c,_,rfl⟩:=List.mem_map.1 hu
      exact⟨rfl,by simp[Value.cells,Value.oneCell']⟩
  · cases hs
end
end Sv
end
section
open Go Go.RowKit
namespace Sv
structure Res where
  a:AV
  h:AH
  nx:Nat
  k:Option Nat
  C:Option Prop
def Dom (φ:Phi) (nx:Nat):Prop:=∀b,nx≤b→φ b=none∧φ.s b=none
noncomputable def X5h (k:Option Nat) (a:AV):AV:=match k with
  |none=>a
  |some b=>Hg b a
def Keeps (φ φ':Phi) (k:Option Nat):Prop:=φ'.f=φ.f∧(∀a v,VR φ a v→VR φ' (X5h k a) v)∧∀b x,φ b=some x→φ' b=some x
theorem Keeps.of_le {φ φ':Phi} (h:φ.le φ') (hf:φ'.f=φ.f:=by rfl):Keeps φ φ' none:=⟨hf,fun _ _ k=>k.mono h,h.m⟩
def Q49 (P:Program) (ρ:Operand→Value) (o:Oper) (w:World) (v:Value) (w':World):Prop:=(execOp ρ o).run P w = .ok (.value v) w'∨((execOp ρ o).run P w = .ok .skip w'∧v=undef)
def X79 (P:Program) (B:Bas) (φ:Phi) (w:World) (ρ:Operand→Value) (o:Oper) (r:Res):Prop :=
  Bn r.C→∃φ' w' v,Q49 P ρ o w v w'∧VR φ' r.a v∧Rel B φ' r.h w'∧Keeps φ φ' r.k∧Dom φ' r.nx
def Phi.extS (φ:Phi) (b:Nat) (v:Value):Phi:=⟨φ.m,fun i=>if i=b then some v else φ.s i,φ.f⟩
theorem Phi.extS_same (φ:Phi) (b:Nat) (v:Value):(φ.extS b v).s b=some v:=if_pos rfl
theorem Phi.extS_le {φ:Phi} {b:Nat} {v:Value} (h:φ.s b=none):φ.le (φ.extS b v) :=
  ⟨fun _ _ e=>e,fun i y e=>by show(if i=b then _ else _)=_;rw[if_neg (by rintro rfl;rw[h] at e;cases e)];exact e,fun _ _ e=>e⟩
theorem Phi.extS_turn (φ:Phi) (b:Nat) (v:Value):Turn φ (φ.extS b v) b:=⟨fun _=>rfl,fun c hc=>if_neg hc,fun _ _ e=>e⟩
theorem Dom.ext {φ:Phi} {nx x:Nat} (d:Dom φ nx):Dom (φ.ext nx x) (nx+1):=fun b hb=>⟨by show(if b=nx then _ else _)=_;rw[if_neg (by omega)];exact(d b (by omega)).1,(d b (by omega)).2⟩
theorem Dom.extS {φ:Phi} {nx:Nat} {v:Value} (d:Dom φ nx):Dom (φ.extS nx v) (nx+1):=fun b hb=>⟨(d b (by omega)).1,by show(if b=nx then _ else _)=_;rw[if_neg (by omega)];exact(d b (by omega)).2⟩
section
variable (P : Program)
noncomputable def zok (e sz:Nat):Bool:=match P.info? e with
  |some i=>(match i.zero with|some z=>Nat.beq z.cells.size sz|none=>false)
  |none=>false
noncomputable def M4 (e sz:Nat) (a:AV) (h:AH) (nx:Nat):Option (Nat × AH × Nat):=match a with
  |.own b=>some (b,h,nx)
  |.nils=>some (nx,Ch nx (.grow [] e sz) h,nx+1)
  |.sl b 0 n c op=>match op with
    |false=>match Bh b h with
      |some (.row cs e')=>bif Nat.beq e' e&&Nat.beq (n*sz) cs.length&&Nat.beq c n&&frzl cs&&ones cs&&Nat.ble n 1000000 then some (nx,Ch nx (.grow (E3 sz n cs) e sz) (Da b h),nx+1) else none
      |_=>none
    |true=>none
  |_=>none
noncomputable def Vl (t tx:Nat) (a x:AV) (h:AH) (nx:Nat):Option Res:=match Fa P t with
  |some e=>match tsz P e with
    |some sz=>match tby P e with
      | some by_ => bif zok P e sz && Nat.blt 0 sz && Nat.blt 0 by_ then match M4 e sz a h nx with
          |some (b,h1,nx1)=>match R4 P sz tx x h1 with
            |some (m,news)=>match Bh b h1 with
              |some (.grow es e' sz')=>bif Nat.beq e' e&&Nat.beq sz' sz then some ⟨.own b,Ch b (.grow (es++news) e sz) (Ei b h1),nx1,some b,some ((es.length+m)*by_≤140737488355328)⟩ else none
              |_=>none
            |none=>none
          |none=>none
        else none
      |none=>none
    |none=>none
  |none=>none
end
section
variable {P : Program} {φ : Phi} {B : Bas} {w : World} {h : AH} {nx : Nat}
theorem Q5m {e sz by_:Nat} (h1:zok P e sz=true) (h2:tsz P e=some sz) (h3:tby P e=some by_):∃i z,P.info? e=some i∧i.zero=some z∧z.cells.size=sz∧i.size=sz∧i.bytes=by_:=by
  obtain⟨i,hi,hb,hs⟩:=Wi h3 h2
  unfold zok at h1
  rw[hi] at h1
  simp only at h1
  split at h1
  · rename_i z hz
    exact⟨i,z,hi,hz,Nat.eq_of_beq_eq_true h1,hs,hb⟩
  · cases h1
theorem Yl {base size n:Nat} {e:TypeId} {v:Value} {xs:List Value} (h:w.ownsRow base e size v n xs):∃a c,v = .slice a n c:=by
  rcases h.2 with⟨rfl,rfl⟩|⟨g,cap,cur,rfl,_⟩<;>exact⟨_,_,rfl⟩
theorem Ru {e sz : Nat} {a : AV} {v : Value} {b nx1 : Nat} {h1 : AH} (ht : M4 e sz a h nx = some (b, h1, nx1)) (hsz : 0 < sz) (hv : VR φ a v) (r : Rel B φ h w) (d : Dom φ nx) :
    ∃φ1,φ.le φ1∧Rel B φ1 h1 w∧Dom φ1 nx1∧φ1.s b=some v∧φ1.f=φ.f:=by
  unfold M4 at ht
  split at ht
  · cases ht
    simp only[VR] at hv
    exact⟨φ,Phi.le_refl _,r,d,hv.1,rfl⟩
  · cases ht
    simp only[VR] at hv;subst hv
    have hs:=(d nx (Nat.le_refl _)).2
    refine⟨φ.extS nx (.slice none 0 0),Phi.extS_le hs,?_,d.extS,Phi.extS_same _ _ _,rfl⟩
    refine(r.go (Phi.extS_le hs) (Below.refl _ _) r.fro (fun b o q => .inl q)).add ⟨_,[],Phi.extS_same _ _ _,World.ownsRow_nil w _ _ _,.nil,by simp⟩ fun k hk=>?_
    simp[img,Phi.extS_same,Value.ownBlock] at hk
  · rename_i b' n c op
    split at ht
    · split at ht
      · rename_i cs e' hb
        obtain⟨h3,h4⟩:=Eb (f:=none) ht
        cases h4
        simp only[Bool.and_eq_true] at h3
        obtain⟨⟨⟨⟨⟨c1,c2⟩,c3⟩,c4⟩,c5⟩,c6⟩:=h3
        have:=Nat.eq_of_beq_eq_true c1;subst this
        have:=Nat.eq_of_beq_eq_true c3;subst this
        have c2':=Nat.eq_of_beq_eq_true c2
        have c6':=Dz c6
        simp only[VR] at hv
        obtain⟨y,κ,hφ,hv⟩:=hv
        have hv':v = .slice (some ⟨y,0,none⟩) c c:=by
          rcases hv with⟨q,_⟩|⟨_,hv⟩
          · cases q
          · exact hv
        subst hv'
        obtain⟨vs,e1,e2⟩:=r.rowAt hb hφ
        have hl:=e2.length
        have hones:=e2.ones c5
        obtain⟨us,k1,k2,k3,k4⟩:=Q2 hsz c cs vs.toList (VRl.fz e2 c4) (by omega) c5 hones
        have hi:img φ b' (.row cs e') y:=by simp[img,hφ]
        have hgf:=r.gf b' _ y hb hi
        have hs:=(d nx (Nat.le_refl _)).2
        have hown:w.ownsRow 0 e' sz (.slice (some ⟨y,0,none⟩) c c) c vs.toList:=by
          refine⟨by omega,.inr ⟨y,c,vs,rfl,Nat.zero_le _,e1,Nat.le_refl _,by unfold maxLen;omega,by simp at hl;omega,?_⟩⟩
          rw[List.take_of_length_le (by omega)]
        refine⟨φ.extS nx (.slice (some ⟨y,0,none⟩) c c),Phi.extS_le hs,?_,d.extS,Phi.extS_same _ _ _,rfl⟩
        have hcl:(E3 sz c cs).length=c:=by rw[←k1.length,k2]
        refine((r.del b').go (Phi.extS_le hs) (Below.refl _ _) r.fro (fun b o q => .inl q)).add ⟨_,us,Phi.extS_same _ _ _,by rw[k4,hcl];exact hown,k1,fun u hu=>⟨k3 u hu,fun c hc=>hones c (by rw[←k4];exact List.mem_flatMap.2 ⟨u,hu,hc⟩)⟩⟩ fun k hk=>?_
        simp only[img,Phi.extS_same,Value.ownBlock,Option.bind_some,Option.some.injEq] at hk
        subst hk
        refine⟨hgf.1,hgf.2.1,hgf.2.2,fun c' o' hc' e'' i''=>?_⟩
        have e3:=Dx e''
        have s:SameO φ (φ.extS nx (.slice (some ⟨y,0,none⟩) c c)) c' o':=SameO.of_le (Phi.extS_le hs) (r.obj c' o' e3.2)
        rw[s.img] at i''
        exact e3.1 (r.sep c' b' o' _ y e3.2 hb i'' hi)
      · cases ht
    · cases ht
  · cases ht
theorem X6b {t tx ty : Nat} {a x : AV} {av xv : Value} {r : Res} (ha : Vl P t tx a x h nx = some r) (hC : Bn r.C) (hav : VR φ a av) (hxv : VR φ x xv) (rl : Rel B φ h w) (d : Dom φ nx) :
    ∃φ' w' v,(Builtin.append_ #[t,tx] ty #[av,xv]).run P w = .ok v w'∧VR φ' r.a v∧Rel B φ' r.h w'∧Keeps φ φ' r.k∧Dom φ' r.nx:=by
  unfold Vl at ha
  split at ha
  · rename_i e he
    split at ha
    · rename_i sz hsz
      split at ha
      · rename_i by_ hby
        obtain⟨h3,h4⟩:(zok P e sz&&Nat.blt 0 sz&&Nat.blt 0 by_)=true∧_:=by
          cases hq:(zok P e sz&&Nat.blt 0 sz&&Nat.blt 0 by_) with
          |false=>rw[hq] at ha;cases ha
          |true=>rw[hq,cond_true] at ha;exact⟨rfl,ha⟩
        simp only[Bool.and_eq_true] at h3
        obtain⟨⟨c1,c2⟩,c3⟩:=h3
        have c2':0 < sz:=by simpa [Nat.blt_eq] using c2
        have c3':0 < by_:=by simpa [Nat.blt_eq] using c3
        split at h4
        · rename_i b h1 nx1 hth
          obtain⟨φ1,hle,r1,d1,hs1,hf1⟩:=Ru hth c2' hav rl d
          split at h4
          · rename_i m news hsrc
            split at h4
            · rename_i es e' sz' hb
              obtain⟨h5,h6⟩:=Eb (f:=none) h4
              subst h6
              simp only[Bool.and_eq_true] at h5
              have:=Nat.eq_of_beq_eq_true h5.1;subst this
              have:=Nat.eq_of_beq_eq_true h5.2;subst this
              obtain⟨us,vs,q1,q2,q3,q4,q5⟩:=Q6g hsrc (hxv.mono hle) r1
              obtain⟨v0,vs0,p1,p2,p3,p4⟩:=r1.obj b _ hb
              rw[hs1] at p1;cases p1
              obtain⟨i,z,hi,hz,hzs,his,hib⟩:=Q5m c1 hsz hby
              have hC':(es.length+m)*by_≤140737488355328:=hC
              have hsm:es.length+m≤9223372036854775807:=by
                have:(es.length+m)*1≤(es.length+m)*by_:=Nat.mul_le_mul_left _ c3'
                omega
              subst his hib
              obtain⟨v',w',g1,g2,g3,g4⟩:=Q7b (P:=P) (ty:=ty) w (D1 he) hi hz hzs c2' p2 q1 hsm hC' (Nat.zero_le _)
              have hlen:(es++news).length=es.length+m:=by rw[List.length_append,←q2.length,q3]
              have hat:At B (φ1.extS b v') w' b (.grow (es++news) e' i.size):=by
                refine⟨v',vs0++vs,Phi.extS_same _ _ _,?_,p3.append q2,fun u hu=>?_⟩
                · rw[hlen,List.flatMap_append,←q4];exact g2
                · rcases List.mem_append.1 hu with hu|hu
                  · exact p4 u hu
                  · exact q5 u hu
              obtain⟨ad,cc,hform⟩:=Yl g2
              refine⟨φ1.extS b v',w',v',g1,by simp only[VR];exact⟨Phi.extS_same _ _ _,ad,_,cc,hform⟩,r1.grown hb hs1 (Phi.extS_turn _ _ _) (Phi.extS_same _ _ _) rfl g3 g4 (fun k hk=>(g2.lt k hk).2) hat,⟨hf1,fun a u k=>R9 (Phi.extS_turn _ _ _) (k.mono hle),hle.m⟩,fun c hc=>⟨(d1 c hc).1,?_⟩⟩
              show(if c=b then _ else _)=_
              rw[if_neg (by rintro rfl;rw[(d1 c hc).2] at hs1;cases hs1)]
              exact(d1 c hc).2
            · cases h4
          · cases h4
        · cases h4
      · cases ha
    · cases ha
  · cases ha
end
end Sv
end
section
open Go Go.RowKit
namespace Sv
abbrev Fr:=List (Nat × AV)
noncomputable def Cl (t:Nat):Fr→Option AV
  |[]=>none
  |(k,a)::r=>bif Nat.beq k t then some a else Cl t r
noncomputable def Fh (t:Nat) (a:AV):Fr→Fr
  |[]=>[(t,a)]
  |(k,x)::r=>bif Nat.beq k t then (k,a)::r else (k,x)::Fh t a r
theorem Nt (t:Nat) (a:AV):∀s:Fr,Cl t (Fh t a s)=some a
  |[]=>by simp only[Fh,Cl,Nat.beq_refl,cond_true]
  |(k,x)::r=>by
    rcases Du k t with⟨e,_⟩|⟨e,_⟩<;>simp only[Fh,e,cond_true,cond_false,Cl]
    exact Nt t a r
theorem Nu {t u:Nat} (a:AV) (hne:u≠t):∀s:Fr,Cl u (Fh t a s)=Cl u s
  |[]=>by simp only[Fh,Cl,Hp (Ne.symm hne),cond_false]
  |(k,x)::r=>by
    rcases Du k t with⟨e,h1⟩|⟨e,_⟩
    · subst h1;simp only[Fh,Nat.beq_refl,cond_true,Cl,Hp (Ne.symm hne),cond_false]
    · simp only[Fh,e,cond_false,Cl,Nu a hne r]
noncomputable def Hi (f:AV→AV):Fr→Fr
  |[]=>[]
  |(k,a)::r=>(k,f a)::Hi f r
theorem Nv (f:AV→AV) (t:Nat):∀s:Fr,Cl t (Hi f s)=(Cl t s).map f
  |[]=>rfl
  |(k,x)::r=>by
    simp only[Hi,Cl]
    rcases Du k t with⟨e,_⟩|⟨e,_⟩<;>simp only[e,cond_true,cond_false,Option.map_some,Nv f t r]
noncomputable def evA (s:Fr):Operand→Option AV
  |.tmp t=>Cl t s
  |.const v=>ofV v
  |.func f=>some (.fn f [] [])
  |.global _=>none
def FRel (φ:Phi) (n:Nat) (s:Fr) (σ:Nat→Value):Prop:=∀t a,Cl t s=some a→VR φ a (sl n σ t)
theorem FRel.ev {φ:Phi} {n:Nat} {s:Fr} {σ:Nat→Value} (r:FRel φ n s σ):EVR φ (evA s) (ev n σ):=by
  intro x a h
  cases x with
  |tmp t=>exact r t a h
  |const v=>exact Y0 h
  |func f =>
    simp only[evA,Option.some.injEq] at h;subst h
    simp only[VR,Go.Proofs.YtlmloohlmlahfaaGreatDoor.ev];exact⟨[],[],.nil,.nil,rfl⟩
  |global g=>cases h
noncomputable def Q1 (k:Option Nat) (s:Fr):Fr:=match k with
  |none=>s
  |some b=>Hi (Hg b) s
theorem FRel.keeps {φ φ':Phi} {k:Option Nat} {n:Nat} {s:Fr} {σ:Nat→Value} (r:FRel φ n s σ) (hk:Keeps φ φ' k):FRel φ' n (Q1 k s) σ:=by
  intro t a h
  cases k with
  |none=>exact hk.2.1 _ _ (r t a h)
  |some b =>
    simp only[Q1,Nv] at h
    obtain⟨a0,h1,rfl⟩:=Option.map_eq_some_iff.1 h
    exact hk.2.1 _ _ (r t a0 h1)
noncomputable def B6 (n:Nat) (dst:Option Nat) (a:AV) (s:Fr):Option Fr:=match dst with
  |none=>some s
  |some d=>bif Nat.blt d n then some (Fh d a s) else none
theorem W2 {n d t:Nat} {σ:Nat→Value} {v:Value} (hd:d < n):sl n (upd σ d v) t=if t=d then v else sl n σ t:=by
  unfold sl upd
  by_cases h:t=d
  · subst h
    have:Nat.blt t n=true:=by simpa [Nat.blt_eq] using hd
    simp[this]
  · have:Nat.beq t d=false:=Hp h
    simp[this,h]
theorem FRel.put {φ:Phi} {n:Nat} {s s':Fr} {σ:Nat→Value} {dst:Option Nat} {a:AV} {v:Value} (r:FRel φ n s σ) (h:B6 n dst a s=some s') (hv:VR φ a v):FRel φ n s' (Ci σ dst v):=by
  cases dst with
  |none=>cases h;exact r
  |some d =>
    unfold B6 at h
    obtain⟨h1,h2⟩:=Eb (f:=none) h
    subst h2
    have hd:d < n:=by simpa [Nat.blt_eq] using h1
    intro t b hb
    simp only[Ci]
    rw[W2 hd]
    by_cases ht:t=d
    · subst ht;rw[Nt] at hb;cases hb;rw[if_pos rfl];exact hv
    · rw[Nu _ ht] at hb;rw[if_neg ht];exact r t b hb
section
variable (P : Program) (eA : Operand → Option AV)
noncomputable def roS (o:Oper) (h:AH):PC:=match Pk P eA o with
  |some r=>some r
  |none=>match o.op with
    |.load t x=>match eA x with
      |some a=>match Kt P t a h with
        |some r=>some (r,none)
        |none=>none
      |none=>none
    |.call c=>match c.callee with
      |.builtin .len=>match c.args.toList,c.argTypes.toList with
        |[x],[t]=>match eA x with
          |some (.own b)=>match Fa P t with
            |some _=>match Bh b h with
              |some (.grow es _ _)=>some (.int .i64 (es.length:Int),none)
              |_=>none
            |none=>none
          |_=>none
        |_,_=>none
      |_=>none
    |_=>none
noncomputable def Q35 (c:Call) (h:AH) (nx:Nat):Option Res:=match c.callee with
  |.builtin .append=>match c.args.toList,c.argTypes.toList with
    |[x,y],[t,u]=>match eA x with
      |some a=>match eA y with
        |some b=>Vl P t u a b h nx
        |none=>none
      |none=>none
    |_,_=>none
  |_=>none
noncomputable def opS (o:Oper) (h:AH) (nx:Nat):Option Res:=match roS P eA o h with
  |some r=>some ⟨r.1,h,nx,none,r.2⟩
  |none=>match o.op with
    |.store t x y=>match eA x with
      |some a=>match eA y with
        |some b=>match Ry P t a b h with
          |some h'=>some ⟨.tup [],h',nx,none,none⟩
          |none=>none
        |none=>none
      |none=>none
    |.call c=>Q35 P eA c h nx
    |_=>match P0 P eA o with
      |some (k,ao)=>some ⟨k.av nx,Ch nx ao h,nx+1,none,none⟩
      |none=>none
end
section
variable {P : Program} {eA : Operand → Option AV} {φ : Phi} {B : Bas} {w : World} {h : AH} {nx n : Nat} {σ : Nat → Value}
theorem M3:VR φ (.tup []) undef:=by simp only[VR];exact⟨[],.nil,rfl⟩
theorem Xa (hev:EVR φ eA (ev n σ)) {o:Oper} {a:AV} {C:Option Prop} (ho:roS P eA o h=some (a,C)) (hC:Bn C) (r:Rel B φ h w):∃v,(execOp (ev n σ) o).run P w = .ok (.value v) w∧VR φ a v:=by
  unfold roS at ho
  split at ho
  · rename_i q hq
    cases ho
    obtain⟨v,h1,h2⟩:=Xt hev hq hC
    exact⟨v,h1 w,h2⟩
  · obtain⟨dst,op,ty,ps,af,g⟩:=o
    split at ho
    · rename_i t x hop
      simp only at hop;subst hop
      split at ho
      · rename_i a' ha
        split at ho
        · rename_i q hq
          cases ho
          obtain⟨v,h1,h2⟩:=Z3 hq (hev _ _ ha) r
          exact⟨v,by simp only[execOp,Sem.run_bind,h1,Result.andThen_ok,Sem.run_pure],h2⟩
        · cases ho
      · cases ho
    · rename_i c hop
      simp only at hop;subst hop
      split at ho
      · rename_i hcal
        split at ho
        · rename_i x t hargs htys
          split at ho
          · rename_i b hb
            split at ho
            · rename_i e he
              split at ho
              · rename_i es e' sz hg
                cases ho
                have hx:=hev _ _ hb
                simp only[VR] at hx
                obtain⟨v,vs,q1,q2,q3,q4⟩:=r.obj b _ hg
                rw[hx.1] at q1
                obtain⟨cal,args,tys⟩:=c
                simp only at hcal hargs htys
                subst hcal
                have ha:args = #[x]:=by apply Array.ext';simpa using hargs
                have ht:tys = #[t]:=by apply Array.ext';simpa using htys
                subst ha ht
                refine⟨_,?_,Hs⟩
                have hform:ev n σ x=v:=Option.some.inj q1
                rcases q2.2 with⟨hv,hn⟩|⟨gg,cap,cur,hv,_⟩
                · rw[hn];simp[execOp,resolve,invoke,builtin,Builtin.len_,hform,hv,run_underlying (D1 he),go_sem,goInt]
                · simp[execOp,resolve,invoke,builtin,Builtin.len_,hform,hv,run_underlying (D1 he),go_sem,goInt]
              · cases ho
            · cases ho
          · cases ho
        · cases ho
      · cases ho
    · cases ho
theorem Q9e (hev:EVR φ eA (ev n σ)) {o:Oper} {r:Res} (ho:opS P eA o h nx=some r) (rl:Rel B φ h w) (d:Dom φ nx):X79 P B φ w (ev n σ) o r:=by
  intro hC
  unfold opS at ho
  split at ho
  · rename_i q hq
    cases ho
    obtain⟨v,h1,h2⟩:=Xa hev (C:=q.2) hq hC rl
    exact⟨φ,w,v,.inl h1,h2,rl,Keeps.of_le (Phi.le_refl _),d⟩
  · have newcase : ∀ {k : NK} {ao : AO}, P0 P eA o = some (k, ao) → r = ⟨k.av nx, Ch nx ao h, nx + 1, none, none⟩ → ∃ φ' w' v, Q49 P (ev n σ) o w v w' ∧ VR φ' r.a v ∧ Rel B φ' r.h w' ∧ Keeps φ φ' r.k ∧ Dom φ' r.nx := by
      intro k ao hn e
      subst e
      obtain⟨hng,ob,h1,h2⟩:=Q9z hev hn
      have hnx:=(d nx (Nat.le_refl _)).1
      have hle:=Phi.ext_le (x:=w.heap.size) hnx
      exact⟨φ.ext nx w.heap.size,w.alloc ob,_,.inl (h2 w),NK.vr (Phi.ext_same _ _ _),rl.alloc hnx hng (h1 B _ _ nx _ hle (Phi.ext_same _ _ _) (heap_alloc_new w ob)),Keeps.of_le hle,d.ext⟩
    split at ho
    · rename_i t x y hop
      split at ho
      · rename_i a ha
        split at ho
        · rename_i b hb
          split at ho
          · rename_i h' hs
            cases ho
            obtain⟨w',h1,h2⟩:=Q57 hs (hev _ _ ha) (hev _ _ hb) rl
            refine⟨φ,w',undef,.inr ⟨?_,rfl⟩,M3,h2,Keeps.of_le (Phi.le_refl _),d⟩
            obtain⟨dst,op,ty,ps,af,g⟩:=o
            simp only at hop;subst hop
            exact W6 h1
          · cases ho
        · cases ho
      · cases ho
    · rename_i c hop
      unfold Q35 at ho
      split at ho
      · rename_i hcal
        split at ho
        · rename_i x y t u hargs htys
          split at ho
          · rename_i a ha
            split at ho
            · rename_i b hb
              obtain⟨φ',w',v,g1,g2,g3,g4,g5⟩:=X6b (ty:=o.type) ho hC (hev _ _ ha) (hev _ _ hb) rl d
              refine⟨φ',w',v,.inl ?_,g2,g3,g4,g5⟩
              obtain⟨dst,op,ty,ps,af,g⟩:=o
              simp only at hop;subst hop
              obtain⟨cal,args,tys⟩:=c
              simp only at hcal hargs htys
              subst hcal
              have ha':args = #[x,y]:=by apply Array.ext';simpa using hargs
              have ht':tys = #[t,u]:=by apply Array.ext';simpa using htys
              subst ha' ht'
              simp only[execOp,resolve,invoke,builtin,Sem.run_bind,Sem.run_pure,Result.andThen_ok,List.map_toArray,List.map_cons,List.map_nil,g1]
            · cases ho
          · cases ho
        · cases ho
      · cases ho
    · split at ho
      · rename_i k ao hn
        cases ho
        exact newcase hn rfl
      · cases ho
end
structure St where
  s:Fr
  h:AH
  nx:Nat
noncomputable def inL (d:Option Nat):List Nat→Bool
  |[]=>false
  |x::r=>match d with
    |some y=>Nat.beq x y||inL d r
    |none=>false
noncomputable def Ma (t:Nat):List Operand→Bool
  |[]=>false
  |.tmp u::l=>Nat.beq u t||Ma t l
  |_::l=>Ma t l
noncomputable def Hu (l:List Operand) (e:Operand→Option AV) (x:Operand):Option AV:=match e x with
  |some (.cond _ a)=>(match x with
    |.tmp t=>bif Ma t l then some a else e x
    |_=>none)
  |r=>r
noncomputable def Jn:Op→List Operand
  |.pick c _ _=>[c]
  |o=>o.operands.toList
noncomputable def Em (e:Operand→Option AV):List Operand→Option Prop
  |[]=>none
  |x::l=>match e x with
    |some (.cond q _)=>I9 (some (q=true)) (Em e l)
    |_=>Em e l
noncomputable def M0 (want q:Bool):Bool:=bif want then q else !q
noncomputable def N2 (want:Bool):Option AV→Option Bool
  |some (.bool q)=>some (M0 want q)
  |some (.cond q' (.bool q))=>some (q'&&M0 want q)
  |some (.tup [])=>some false
  |_=>none
noncomputable def Jh (P:Program) (n:Nat) (ops:Array Oper) (lz:List Nat) (o:Oper) (x:St):Option (St × Option Prop) :=
  let run:Option (St × Option Prop):=match opS P (evA x.s) o x.h x.nx with
    |some r=>match B6 n o.dst r.a (Q1 r.k x.s) with
      |some s'=>some (⟨s',r.h,r.nx⟩,r.C)
      |none=>none
    |none=>none
  match o.guard with
  |none=>run
  |some (j,want)=>match H8 ops.toList j with
    |some t=>match N2 want (Cl t x.s) with
      | some q => bif inL o.dst lz then (match roS P (Hu (Jn o.op) (evA x.s)) o x.h with
          |some (a,C)=>match B6 n o.dst (.cond q a) x.s with
            |some s'=>some (⟨s',x.h,x.nx⟩,match I9 (Em (evA x.s) (Jn o.op)) C with
              |some p=>some (q=true→p)
              |none=>none)
            |none=>none
          |none=>none) else (bif q then run else match B6 n o.dst (.tup []) x.s with
            |some s'=>some (⟨s',x.h,x.nx⟩,none)
            |none=>none)
      |_=>none
    |none=>none
end Sv
end
section
open Go Go.RowKit
namespace Sv
structure Cx where
  f:Nat→Option Obj
  m:Nat→Option (Nat × Nat)
  lo:Nat
  hm:∀b x,m b=some x→b < lo
structure Holds (B:Bas) (F:Cx) (n:Nat) (x:St) (φ:Phi) (σ:Nat→Value) (w:World):Prop where
  fr:FRel φ n x.s σ
  rel:Rel B φ x.h w
  dom:Dom φ x.nx
  old:∀b o,F.f b=some o→φ.f b=some o
  new:∀b o,φ.f b=some o→F.f b=some o∨¬B.old b
  base:∀b x,F.m b=some x→φ b=some x
section
variable {P : Program} {B : Bas} {w : World} {F : Cx} {n : Nat} {φ : Phi} {σ : Nat → Value} {ops : Array Oper} {Q : Exit → (Nat → Value) → World → Prop} {rest : List Oper}
theorem Tc {e:Operand→Option AV}:∀{l:List Operand},Bn (Em e l)→∀{t:Nat} {q:Bool} {a:AV},Ma t l=true→e (.tmp t)=some (.cond q a)→q=true
  |[],_,_,_,_,h,_=>by cases h
  |x::l,hn,t,q,a,h,he=>by
    have hn':Bn (Em e l):=by
      unfold Em at hn
      split at hn
      · exact(Oh hn).2
      · exact hn
    cases x with
    |tmp u =>
      simp only[Ma,Bool.or_eq_true] at h
      rcases h with h|h
      · have:=Nat.eq_of_beq_eq_true h;subst this
        unfold Em at hn
        rw[he] at hn
        exact(Oh hn).1
      · exact Tc hn' h he
    |_=>exact Tc hn' h he
theorem Lj {s:Fr} {l:List Operand} (hr:FRel φ n s σ) (hn:Bn (Em (evA s) l)):EVR φ (Hu l (evA s)) (ev n σ):=by
  intro x a h
  unfold Hu at h
  split at h
  · rename_i q b hb
    split at h
    · rename_i t
      cases h1:Ma t l with
      |true =>
        rw[h1,cond_true] at h
        cases h
        exact(hr.ev _ _ hb).condT (Tc hn h1 hb)
      |false=>rw[h1,cond_false] at h;exact hr.ev _ _ h
    · cases h
  · exact hr.ev _ _ h
theorem Tv {s:Fr} {t:Nat} {want r:Bool} (hr:FRel φ n s σ) (h:N2 want (Cl t s)=some r):isB want (sl n σ t)=r:=by
  unfold N2 at h
  split at h
  · rename_i q hq
    cases h
    have:=hr _ _ hq
    simp only[VR] at this
    rw[this];simp only[isB,M0]
  · rename_i q' q hq
    cases h
    have:=hr _ _ hq
    simp only[VR] at this
    cases q' with
    |true=>rw[this.1 rfl];simp only[isB,M0,Bool.true_and]
    |false=>rw[this.2 rfl rfl];rfl
  · rename_i hq
    cases h
    have:=hr _ _ hq
    simp only[VR] at this
    obtain⟨vs,h1,h2⟩:=this
    rw[h2,h1.nil_inv];rfl
  · cases h
theorem Ws {o : Oper} {x y : St} {C : Option Prop} (hx : Holds B F n x φ σ w) (hg : gOk ops n σ o.guard = true)
    (hs:(match opS P (evA x.s) o x.h x.nx with|some r=>(match B6 n o.dst r.a (Q1 r.k x.s) with|some s'=>some ((⟨s',r.h,r.nx⟩:St),r.C)|none=>none)|none=>none)=some (y,C)) (hC:Bn C)
    (next:∀φ' σ' w',Holds B F n y φ' σ' w'→φ'.f=φ.f→WO P n ops rest Q σ' w'):WO P n ops (o::rest) Q σ w:=by
  split at hs
  · rename_i r hr
    split at hs
    · rename_i s' hp
      cases hs
      obtain⟨φ',w',v,h1,h2,h3,h4,h5⟩:=Q9e hx.fr.ev hr hx.rel hx.dom hC
      have hh:Holds B F n ⟨s',r.h,r.nx⟩ φ' (Ci σ o.dst v) w':=⟨(hx.fr.keeps h4).put hp h2,h3,h5,fun b o q=>by rw[h4.1];exact hx.old b o q,fun b o q=>by rw[h4.1] at q;exact hx.new b o q,fun b o q=>h4.2.2 _ _ (hx.base b o q)⟩
      rcases h1 with h1|⟨h1,rfl⟩
      · exact Db hg h1 (next _ _ _ hh h4.1)
      · exact Lb hg h1 (next _ _ _ hh h4.1)
    · cases hs
  · cases hs
theorem R2 {lz : List Nat} {o : Oper} {x y : St} {C : Option Prop} (hx : Holds B F n x φ σ w) (hs : Jh P n ops lz o x = some (y, C)) (hC : Bn C)
    (next:∀φ' σ' w',Holds B F n y φ' σ' w'→φ'.f=φ.f→WO P n ops rest Q σ' w'):WO P n ops (o::rest) Q σ w:=by
  unfold Jh at hs
  simp only at hs
  cases hgd:o.guard with
  |none =>
    rw[hgd] at hs
    exact Ws hx (by rw[hgd];rfl) hs hC next
  |some g =>
    obtain⟨j,want⟩:=g
    rw[hgd] at hs
    simp only at hs
    split at hs
    · rename_i t ht
      split at hs
      · rename_i q hq
        have hgk:gOk ops n σ o.guard=q:=by
          rw[hgd];simp only[gOk,ht];exact Tv hx.fr hq
        cases hlz:inL o.dst lz with
        |true =>
          rw[hlz,cond_true] at hs
          split at hs
          · rename_i a C' hro
            split at hs
            · rename_i s' hp
              cases hs
              cases hw:q with
              |false =>
                refine Fd (by rw[hgk,hw]) (next φ _ w ⟨hx.fr.put hp (by rw[hw];exact Jb),hx.rel,hx.dom,hx.old,hx.new,hx.base⟩ rfl)
              |true =>
                have hC':Bn (I9 (Em (evA x.s) (Jn o.op)) C'):=by
                  revert hC
                  cases I9 (Em (evA x.s) (Jn o.op)) C' with
                  |none=>intro _;trivial
                  |some p=>intro h;exact h hw
                obtain⟨c1,c2⟩:=Oh hC'
                obtain⟨v,h1,h2⟩:=Xa (Lj hx.fr c1) hro c2 hx.rel
                exact Db (by rw[hgk,hw]) h1 (next φ _ w ⟨hx.fr.put hp (by rw[hw];exact Lc h2),hx.rel,hx.dom,hx.old,hx.new,hx.base⟩ rfl)
            · cases hs
          · cases hs
        |false =>
          rw[hlz,cond_false] at hs
          cases hw:q with
          |true =>
            rw[hw,cond_true] at hs
            exact Ws hx (by rw[hgk,hw]) hs hC next
          |false =>
            rw[hw,cond_false] at hs
            split at hs
            · rename_i s' hp
              cases hs
              exact Fd (by rw[hgk,hw]) (next φ _ w ⟨hx.fr.put hp M3,hx.rel,hx.dom,hx.old,hx.new,hx.base⟩ rfl)
            · cases hs
      · cases hs
    · cases hs
end
end Sv
end
section
open Go Go.RowKit
namespace Sv
def Mn (B:Bas) (F:Cx) (n:Nat) (K:Exit→St→Prop):Exit→(Nat→Value)→World→Prop:=fun e σ w=>∃x φ,Holds B F n x φ σ w∧K e x
def SO (P:Program) (n:Nat) (ops:Array Oper) (l:List Oper) (B:Bas) (F:Cx) (K:Exit→St→Prop) (x:St):Prop:=∀φ σ w,Holds B F n x φ σ w→WO P n ops l (Mn B F n K) σ w
def SW (P:Program) (n:Nat) (c:Code) (B:Bas) (F:Cx) (K:Exit→St→Prop) (x:St):Prop:=∀φ σ w,Holds B F n x φ σ w→W P n c (Mn B F n K) σ w
def Ke (k:St→Prop) (K:Exit→St→Prop):Exit→St→Prop
  |.normal,x=>k x
  |e,x=>K e x
def Q3t (id:Nat) (K:Exit→St→Prop):Exit→St→Prop
  |.exit i,x=>bif Nat.beq i id then K .normal x else K (.exit i) x
  |e,x=>K e x
noncomputable def Gh:List Nat→Fr→Option Fr
  |[],_=>some []
  |t::ts,s=>match Cl t s with
    |some a=>match Gh ts s with
      |some r=>some ((t,a)::r)
      |none=>none
    |none=>none
theorem Z2 {s:Fr}:∀{ts:List Nat} {r:Fr},Gh ts s=some r→∀t a,Cl t r=some a→Cl t s=some a
  |[],_,h,_,_,k=>by cases h;cases k
  |u::ts,_,h,t,a,k=>by
    unfold Gh at h
    split at h
    · rename_i b hb
      split at h
      · rename_i r' hr
        cases h
        simp only[Cl] at k
        rcases Du u t with⟨e,h1⟩|⟨e,_⟩<;>rw[e] at k
        · cases k;rw[←h1];exact hb
        · exact Z2 hr t a k
      · cases h
    · cases h
section
variable {P : Program} {B : Bas} {w : World} {F : Cx} {n : Nat} {φ : Phi} {σ : Nat → Value} {K : Exit → St → Prop} {x : St}
theorem Holds.sel {s:Fr} {ts:List Nat} (h:Holds B F n x φ σ w) (k:Gh ts x.s=some s):Holds B F n ⟨s,x.h,x.nx⟩ φ σ w:=⟨fun t a e=>h.fr t a (Z2 k t a e),h.rel,h.dom,h.old,h.new,h.base⟩
theorem X49 {K':Exit→St→Prop} (hk:∀e y,K e y→K' e y) {e:Exit} (h:Mn B F n K e σ w):Mn B F n K' e σ w:=by
  obtain⟨y,φ,h1,h2⟩:=h;exact⟨y,φ,h1,hk _ _ h2⟩
theorem Q4z {c:Code} {K':Exit→St→Prop} (h:SW P n c B F K x) (hk:∀e y,K e y→K' e y):SW P n c B F K' x:=fun φ σ w hx=>Hr (h φ σ w hx) fun e σ w=>X49 hk
theorem Ad {c d:Code} (h:SW P n c B F (Ke (SW P n d B F K) K) x):SW P n (.seq c d) B F K x:=by
  intro φ σ w hx
  refine Ds (Hr (h φ σ w hx) ?_)
  rintro e σ' w' ⟨y,φ',h1,h2⟩
  cases e<;>first|exact h2 φ' σ' w' h1|exact⟨y,φ',h1,h2⟩
theorem Ai (h:K .normal x):SW P n .skip B F K x:=fun φ σ w hx=>Ok ⟨x,φ,hx,h⟩
theorem Ah (h:K .ret x):SW P n .ret B F K x:=fun φ σ w hx=>Hq ⟨x,φ,hx,h⟩
theorem Bt {id:Nat} (h:K (.exit id) x):SW P n (.exit id) B F K x:=fun φ σ w hx=>Q4r ⟨x,φ,hx,h⟩
theorem Vq {id:Nat} (h:K .normal x):SW P n (.label id) B F K x:=fun φ σ w hx=>X6w ⟨x,φ,hx,h⟩
theorem A1 {id:Nat} {c:Code} (h:SW P n c B F (Q3t id K) x):SW P n (.block id c) B F K x:=by
  intro φ σ w hx
  refine Vo (Hr (h φ σ w hx) ?_)
  rintro e σ' w' ⟨y,φ',h1,h2⟩
  cases e with
  |exit i =>
    simp only[Q3t] at h2
    simp only[Vf]
    rcases Du i id with⟨q,_⟩|⟨q,_⟩<;>rw[q] at h2 ⊢ <;> exact⟨y,φ',h1,h2⟩
  |_=>exact⟨y,φ',h1,h2⟩
theorem A8 {o:Operand} {c d:Code} {q:Bool} (hq:evA x.s o=some (.bool q)) (ht:q=true→SW P n c B F K x) (hf:q=false→SW P n d B F K x):SW P n (.cond o c d) B F K x:=by
  intro φ σ w hx
  have:=hx.fr.ev _ _ hq
  simp only[VR] at this
  exact Ra this (fun h=>ht h φ σ w hx) (fun h=>hf h φ σ w hx)
theorem A6 {o:Operand} {c d:Code} {p:Prop} [Decidable p] (hq:evA x.s o=some (.bool (decide p))) (ht:p→SW P n c B F K x) (hf:¬p→SW P n d B F K x):SW P n (.cond o c d) B F K x :=
  A8 hq (fun h=>ht (of_decide_eq_true h)) (fun h=>hf (of_decide_eq_false h))
theorem X7f {c d:Code} (J:St→Prop) (h:SW P n c B F (Ke J K) x) (r:∀y,J y→SW P n d B F K y):SW P n (.seq c d) B F K x:=by
  refine Ad (Q4z h ?_)
  intro e y k
  cases e<;>first|exact k|exact r y k
theorem Ap {id:Nat} {l:List Oper} (h:SO P n l.toArray l B F K x):SW P n (.region id l.toArray false) B F K x:=fun φ σ w hx=>D3 (h φ σ w hx)
theorem B5 {ops:Array Oper} (h:K .normal x):SO P n ops [] B F K x:=fun φ σ w hx=>C9 ⟨x,φ,hx,h⟩
end
def Fro (F:Nat→Option Obj) (w:World):Prop:=∀b o,F b=some o→w.heap[b]? = some o
def ofF (F:Nat→Option Obj):Phi:=⟨fun _=>none,fun _=>none,F⟩
def FnV (P:Program) (f:Nat) (al:List AV) (r:AV):Prop:=∀(F:Nat→Option Obj) (w:World) (vs:List Value),Fro F w→VRl (ofF F) al vs→Calls P f vs.toArray w (Ret fun v w'=>Below w.heap.size w w' ∧
  ∃F',(∀b o,F b=some o→F' b=some o)∧Fro F' w'∧(∀b o,F' b=some o→F b=some o∨w.heap.size≤b)∧VR (ofF F') r v)
noncomputable def Ea (e:Operand→Option AV):List Operand→Option (List AV)
  |[]=>some []
  |x::l=>match e x with
    |some a=>match Ea e l with
      |some r=>some (a::r)
      |none=>none
    |none=>none
theorem Fq {φ:Phi} {e:Operand→Option AV} {ρ:Operand→Value} (hev:EVR φ e ρ):∀{l:List Operand} {r:List AV},Ea e l=some r→VRl φ r (l.map ρ)
  |[],_,h=>by cases h;exact .nil
  |x::l,_,h=>by
    unfold Ea at h
    split at h
    · rename_i a ha
      split at h
      · rename_i r hr;cases h;exact .cons (hev _ _ ha) (Fq hev hr)
      · cases h
    · cases h
noncomputable def Dh (ops:Array Oper) (s:Fr):Option (Nat × Bool)→Bool
  |none=>true
  |some (j,want)=>match H8 ops.toList j with
    |some t=>match Cl t s with
      |some (.bool q)=>M0 want q
      |_=>false
    |none=>false
section
variable {P : Program} {B : Bas} {w : World} {F : Cx} {n : Nat} {φ : Phi} {σ : Nat → Value} {K : Exit → St → Prop} {x : St}
theorem Df {ops:Array Oper} {g:Option (Nat × Bool)} (h:FRel φ n x.s σ) (k:Dh ops x.s g=true):gOk ops n σ g=true:=by
  cases g with
  |none=>rfl
  |some g =>
    obtain⟨j,want⟩:=g
    unfold Dh at k
    unfold gOk
    simp only at k ⊢
    split at k
    · rename_i t ht
      split at k
      · rename_i q hq
        have:=h _ _ hq
        simp only[VR] at this
        rw[ht];simp only[this,isB];exact k
      · cases k
    · cases k
theorem Holds.called {w' : World} {F' : Nat → Option Obj} (hx : Holds B F n x φ σ w) (hb : Below w.heap.size w w') (h1 : ∀ b o, φ.f b = some o → F' b = some o) (h2 : Fro F' w') (h3 : ∀ b o, F' b = some o → φ.f b = some o ∨ w.heap.size ≤ b) :
    Holds B F n x ⟨φ.m,φ.s,F'⟩ σ w':=by
  have hle:φ.le ⟨φ.m,φ.s,F'⟩:=⟨fun _ _ e=>e,fun _ _ e=>e,h1⟩
  exact⟨fun t a e=>(hx.fr t a e).mono hle,hx.rel.go hle hb h2 h3,hx.dom,fun b o e=>h1 _ _ (hx.old b o e),fun b o e=>(h3 b o e).elim (hx.new b o) (fun q => .inr (fun k=>Nat.lt_irrefl _ (Nat.lt_of_lt_of_le (hx.rel.below.lt k) q))),hx.base⟩
theorem X7n {ops : Array Oper} {rest : List Oper} {f : FuncId} {ar : Array Operand} {ts : Array TypeId} {ty : TypeId} {ps : String} {dst : Option Tmp} {af : Array Edge} {g : Option (Nat × Bool)} {al : List AV} {r : AV} {s' : Fr}
    (hg:Dh ops x.s g=true) (he:Au P f) (ha:Ea (evA x.s) ar.toList=some al) (hz:frzl al=true) (hf:FnV P f al r) (hp:B6 n dst r x.s=some s')
    (next:SO P n ops rest B F K ⟨s',x.h,x.nx⟩):SO P n ops (⟨dst,.call { callee:=.value (.func f),args:=ar,argTypes:=ts },ty,ps,af,g⟩::rest) B F K x:=by
  intro φ σ w hx
  have hv:=(Fq hx.fr.ev ha).fz hz
  refine Gc (Df hx.fr hg) he (hf φ.f w _ hx.rel.fro hv) ?_
  rintro v w' ⟨hb,F',h1,h2,h3,h4⟩
  have hh:=hx.called hb h1 h2 h3
  exact next _ _ _ ⟨hh.fr.put hp (h4.mono (Phi.le_fz ⟨φ.m,φ.s,F'⟩)),hh.rel,hh.dom,hh.old,hh.new,hh.base⟩
theorem Q43 {ops : Array Oper} {rest : List Oper} {t : Nat} {f : FuncId} {cap : List AV} {ar : Array Operand} {ts : Array TypeId} {ty : TypeId} {ps : String} {dst : Option Tmp} {af : Array Edge} {g : Option (Nat × Bool)} {al : List AV} {r : AV} {s' : Fr}
    (hg:Dh ops x.s g=true) (hc:Cl t x.s=some (.fn f [] cap)) (he:Au P f) (ha:Ea (evA x.s) ar.toList=some al) (hz:frzl (al++cap)=true) (hf:FnV P f (al++cap) r) (hp:B6 n dst r x.s=some s')
    (next:SO P n ops rest B F K ⟨s',x.h,x.nx⟩):SO P n ops (⟨dst,.call { callee:=.value (.tmp t),args:=ar,argTypes:=ts },ty,ps,af,g⟩::rest) B F K x:=by
  intro φ σ w hx
  have hfn:=hx.fr _ _ hc
  simp only[VR] at hfn
  obtain⟨vf,vc,h1,h2,h3⟩:=hfn
  have:=h1.nil_inv;subst this
  have hv:=((Fq hx.fr.ev ha).append h2).fz hz
  refine Oo (x:=.tmp t) (cap:=vc.toArray) (Df hx.fr hg) h3 he (by simpa using hf φ.f w _ hx.rel.fro hv) ?_
  rintro v w' ⟨hb,F',h1,h2,h3,h4⟩
  have hh:=hx.called hb h1 h2 h3
  exact next _ _ _ ⟨hh.fr.put hp (h4.mono (Phi.le_fz ⟨φ.m,φ.s,F'⟩)),hh.rel,hh.dom,hh.old,hh.new,hh.base⟩
end
end Sv
end
section
open Go Go.RowKit
namespace Sv
def La (h:AH) (al rl:List AV) (h':AH):Prop:=∀(B:Bas) (φ:Phi) (w:World) (vs:List Value),Rel B φ h w→VRl φ al vs→∃F',(∀b o,φ.f b=some o→F' b=some o)∧(∀b o,F' b=some o→φ.f b=some o∨¬B.old b)∧Rel B ⟨φ.m,φ.s,F'⟩ h' w∧VRl (ofF F') rl vs
theorem leF {φ:Phi} {F':Nat→Option Obj} (h:∀b o,φ.f b=some o→F' b=some o):φ.le ⟨φ.m,φ.s,F'⟩:=⟨fun _ _ e=>e,fun _ _ e=>e,h⟩
theorem Lz {F F':Nat→Option Obj} (h:∀b o,F b=some o→F' b=some o):(ofF F).le (ofF F'):=⟨fun _ _ e=>e,fun _ _ e=>e,h⟩
theorem X6t {h:AH}:La h [] [] h:=fun B φ w vs r hv=>⟨φ.f,fun _ _ e=>e,fun _ _ e => .inl e,r,by rw[hv.nil_inv];exact .nil⟩
theorem X6u {h h1 h2:AH} {a b c d:List AV} (k1:La h a c h1) (k2:La h1 b d h2):La h (a++b) (c++d) h2:=by
  intro B φ w vs r hv
  obtain⟨vs1,vs2,rfl,e1,e2⟩:∃vs1 vs2,vs=vs1++vs2∧VRl φ a vs1∧VRl φ b vs2:=by
    clear k1 k2
    induction a generalizing vs with
    |nil=>exact⟨[],vs,rfl,.nil,hv⟩
    |cons x r ih =>
      obtain⟨v,vs',rfl,h1,h2⟩:=hv.cons_inv
      obtain⟨p,q,rfl,e1,e2⟩:=ih _ h2
      exact⟨v::p,q,rfl,.cons h1 e1,e2⟩
  obtain⟨F1,f1,f2,f3,f4⟩:=k1 B φ w vs1 r e1
  obtain⟨F2,g1,g2,g3,g4⟩:=k2 B ⟨φ.m,φ.s,F1⟩ w vs2 f3 (e2.mono (leF f1))
  exact⟨F2,fun b o e=>g1 b o (f1 b o e),fun b o e=>(g2 b o e).elim (f2 b o) .inr,g3,(f4.mono (Lz g1)).append g4⟩
theorem Rel.still {B : Bas} {w : World} {φ : Phi} {h : AH} (r : Rel B φ h w) {b k : Nat} {o : AO} {ob : Obj} (hb : Bh b h = some o) (hi : img φ b o k) (hk : w.heap[k]? = some ob) :
    Rel B ⟨φ.m,φ.s,fun i=>if i=k then some ob else φ.f i⟩ (Da b h) w∧(∀b o,φ.f b=some o→(if b=k then some ob else φ.f b)=some o)∧∀b o,(if b=k then some ob else φ.f b)=some o→φ.f b=some o∨¬B.old b:=by
  have hgf:=r.gf b o k hb hi
  have hle:∀b o,φ.f b=some o→(if b=k then some ob else φ.f b)=some o:=fun c o' e=>by rw[if_neg (by rintro rfl;rw[hgf.2.2] at e;cases e)];exact e
  refine⟨(r.del b).frame (fun c o' e=>SameO.of_le (leF hle) (r.obj c o' (Dx e).2)) r.below (Nat.le_refl _) (fun c o' e=>?_) (fun c o' j e i=>⟨rfl,?_⟩),hle,fun c o' e=>?_⟩
  · simp only at e
    split at e
    · rename_i q;cases e;rw[q];exact hk
    · exact r.fro c o' e
  · have e':=Dx e
    show(if j=k then some ob else φ.f j)=none
    rw[if_neg (by rintro rfl;exact e'.1 (r.sep c b o' o j e'.2 hb i hi))]
    exact(r.gf c o' j e'.2 i).2.2
  · split at e
    · rename_i q;rw[q];exact .inr hgf.1
    · exact .inl e
theorem Se {F : Nat → Option Obj} {x sz n c : Nat} {cs : Array Value} {e : Nat} {fr : Nat × Nat} {vs : List Value} (hF : F x = some (.cells cs e fr)) (hn : vs.length = n) (hc : n ≤ c) (hs : ∀ u ∈ vs, u.cells.size = sz ∧ ∀ q ∈ u.cells.toList, q.oneCell' = true)
    (hcs:cs.toList.take (n*sz)=vs.flatMap fun u=>u.cells.toList):RowAt F sz n (fun i=>nth vs i) (.slice (some ⟨x,0,none⟩) n c):=by
  refine .inr ⟨x,0,c,rfl,hc,fun i hi=>?_⟩
  have hm:nth vs i∈vs:=Jo (by omega)
  refine⟨(hs _ hm).1,cs,e,fr,hF,fun j u hj=>?_⟩
  have hj':j < sz:=by have:=(List.getElem?_eq_some_iff.1 hj).1;rw[Array.length_toList,(hs _ hm).1] at this;exact this
  have h1:(vs.map fun u=>u.cells.toList).flatten[i*sz+j]? = some u:=by
    rw[Qg (sz:=sz) (vs.map fun u=>u.cells.toList) i j (fun c hc=>by obtain⟨v,hv,rfl⟩:=List.mem_map.1 hc;rw[Array.length_toList];exact(hs v hv).1) (by rw[List.length_map];omega) hj']
    rw[show nth (vs.map fun u=>u.cells.toList) i=(nth vs i).cells.toList by
      have hi':i < vs.length:=by omega
      simp only[nth,List.getElem?_map,List.getElem?_eq_getElem hi',Option.map_some,Option.getD_some]]
    exact hj
  refine⟨?_,(hs _ hm).2 u (List.mem_of_getElem? hj)⟩
  rw[←List.flatMap_def,←hcs] at h1
  obtain⟨hlt,_⟩:=List.getElem?_eq_some_iff.1 h1
  rw[List.getElem?_take_of_lt (by rw[List.length_take] at hlt;omega)] at h1
  rw[Nat.zero_add,←Array.getElem?_toList]
  exact h1
theorem VRl.nth {φ:Phi} {es:List AV} {vs:List Value} (h:VRl φ es vs) {i:Nat} (hi:i < es.length):VR φ (es.getD i Bp) (Go.Proofs.YtlmloohlmlahfaaGreatDoor.nth vs i):=by
  obtain⟨v,h1,h2⟩:=h.get (List.getElem?_eq_getElem hi)
  rw[List.getD_eq_getElem?_getD,List.getElem?_eq_getElem hi]
  simp only[Go.Proofs.YtlmloohlmlahfaaGreatDoor.nth,h1,Option.getD_some]
  exact h2
section
variable (P : Program)
mutual
noncomputable def Di (h:AH):AV→Option (AV × AH)
  |.own b=>match Bh b h with
    |some (.grow es _ sz)=>some (.row sz es.length (fun i=>es.getD i Bp),Da b h)
    |_=>none
  |.sl b o n c op=>match Bh b h with
    |some (.row cs e)=>match tsz P e with
      |some sz=>bif Nat.beq o 0&&Nat.beq (n*sz) cs.length&&frzl cs&&ones cs&&Nat.blt 0 sz&&!op&&Nat.ble n c then some (.row sz n (fun i=>(E3 sz n cs).getD i Bp),Da b h) else none
      |none=>none
    |_=>none
  |.ptr b o=>match Bh b h with
    |some (.row cs e)=>bif Nat.beq o 0&&frzl cs&&ones cs then some (.fp (.agg cs),Da b h) else none
    |_=>none
  |.map b=>match Bh b h with
    |some (.mm g none _ sz)=>some (.smap (.slice none 0 0) (fun s => .row sz (g s).length (fun i=>(g s).getD i Bp)),Da b h)
    |_=>none
  |.agg l=>match frzVl h l with
    |some (r,h')=>some (.agg r,h')
    |none=>none
  |.tup l=>match frzVl h l with
    |some (r,h')=>some (.tup r,h')
    |none=>none
  |.fn f fi cap=>bif frzl fi then (match frzVl h cap with
    |some (r,h')=>some (.fn f fi r,h')
    |none=>none) else none
  |a=>bif frz a then some (a,h) else none
noncomputable def frzVl (h:AH):List AV→Option (List AV × AH)
  |[]=>some ([],h)
  |a::l=>match Di h a with
    |some (b,h1)=>match frzVl h1 l with
      |some (r,h2)=>some (b::r,h2)
      |none=>none
    |none=>none
end
end
theorem E5 {h:AH} {a:AV} (k:frz a=true):La h [a] [a] h:=fun B φ w vs r hv=>⟨φ.f,fun _ _ e=>e,fun _ _ e => .inl e,r,hv.fz (by simp only[frzl,k,Bool.and_true])⟩
theorem VRl.single_inv {φ:Phi} {a:AV} {vs:List Value} (h:VRl φ [a] vs):∃v,vs=[v]∧VR φ a v:=by
  obtain⟨v,vs',rfl,h1,h2⟩:=h.cons_inv
  rw[h2.nil_inv];exact⟨v,rfl,h1⟩
theorem Dn {q:Bool} {α:Type} {x:Option α} {r:α} (h:(bif q then x else none)=some r):q=true∧x=some r:=by
  cases q
  · cases h
  · exact⟨rfl,h⟩
mutual
theorem Ty {P:Program}:∀{a:AV} {h h':AH} {r:AV},Di P h a=some (r,h')→La h [a] [r] h'
  |.own b,h,h',r,hq=>by
    unfold Di at hq
    split at hq
    · rename_i es e sz hb
      cases hq
      intro B φ w vs rl hv
      obtain⟨v,rfl,hv1⟩:=hv.single_inv;clear hv;have hv:=hv1
      simp only[VR] at hv
      obtain⟨v0,us,q1,q2,q3,q4⟩:=rl.obj b _ hb
      rw[hv.1] at q1;cases q1
      have hlen:=q3.length
      rcases q2.2 with⟨rfl,hn⟩|⟨g,cap,cur,rfl,hg1,hg2,hg3,hg4,hg5,hg6⟩
      · refine⟨φ.f,fun _ _ e=>e,fun _ _ e => .inl e,rl.del b,.single ?_⟩
        simp only[VR]
        exact⟨fun _=>undef,fun i hi=>by omega,.inl ⟨hn,.inl rfl⟩⟩
      · have hi:img φ b (.grow es e sz) g:=by simp[img,hv.1,Value.ownBlock]
        obtain⟨k1,k2,k3⟩:=rl.still hb hi hg2
        refine⟨_,k2,k3,k1,.single ?_⟩
        simp only[VR]
        refine⟨fun i=>nth us i,fun i hi=>(q3.nth hi).mono (Lz k2),?_⟩
        exact Se (F:=fun i=>if i=g then some (Obj.cells cur e (0,0)) else φ.f i) (if_pos rfl) hlen hg3 q4 hg6
    · cases hq
  |.sl b o n c op,h,h',r,hq=>by
    unfold Di at hq
    split at hq
    · rename_i cs e hb
      split at hq
      · rename_i sz hsz
        obtain⟨h3,h4⟩:=Dn hq
        cases h4
        simp only[Bool.and_eq_true,Bool.not_eq_true'] at h3
        obtain⟨⟨⟨⟨⟨⟨c0,c1⟩,c2⟩,c3⟩,c4⟩,c5⟩,c6⟩:=h3
        have:=Nat.eq_of_beq_eq_true c0;subst this
        have c1':=Nat.eq_of_beq_eq_true c1
        have c4':0 < sz:=by simpa [Nat.blt_eq] using c4
        subst c5
        intro B φ w vs rl hv
        obtain⟨v,rfl,hv1⟩:=hv.single_inv;clear hv;have hv:=hv1
        simp only[VR] at hv
        obtain⟨y,κ,hφ,hv⟩:=hv
        have hv':v = .slice (some ⟨y,0,none⟩) n c:=by
          rcases hv with⟨q,_⟩|⟨_,hv⟩
          · cases q
          · exact hv
        subst hv'
        obtain⟨us,e1,e2⟩:=rl.rowAt hb hφ
        have hl:=e2.length
        have hones:=e2.ones c3
        obtain⟨ws,k1,k2,k3,k4⟩:=Q2 c4' n cs us.toList (VRl.fz e2 c2) (by omega) c3 hones
        have hi:img φ b (.row cs e) y:=by simp[img,hφ]
        obtain⟨g1,g2,g3⟩:=rl.still hb hi e1
        refine⟨_,g2,g3,g1,.single ?_⟩
        simp only[VR]
        have hcl:(E3 sz n cs).length=n:=by rw[←k1.length,k2]
        refine⟨fun i=>nth ws i,fun i hi=>(k1.nth (by omega)).mono (Lz g2),?_⟩
        refine Se (F:=fun i=>if i=y then some (Obj.cells us e (0,0)) else φ.f i) (if_pos rfl) k2 (Dz c6) (fun u hu=>⟨k3 u hu,fun q hq=>hones q (by rw[←k4];exact List.mem_flatMap.2 ⟨u,hu,hq⟩)⟩) ?_
        rw[k4,List.take_of_length_le (by omega)]
      · cases hq
    · cases hq
  |.ptr b o,h,h',r,hq=>by
    unfold Di at hq
    split at hq
    · rename_i cs e hb
      obtain⟨h3,h4⟩:=Dn hq
      cases h4
      simp only[Bool.and_eq_true] at h3
      obtain⟨⟨c0,c2⟩,c3⟩:=h3
      have:=Nat.eq_of_beq_eq_true c0;subst this
      intro B φ w vs rl hv
      obtain⟨v,rfl,hv1⟩:=hv.single_inv;clear hv;have hv:=hv1
      simp only[VR] at hv
      obtain⟨y,κ,hφ,rfl⟩:=hv
      obtain⟨us,e1,e2⟩:=rl.rowAt hb hφ
      have hones:=e2.ones c3
      have hi:img φ b (.row cs e) y:=by simp[img,hφ]
      obtain⟨g1,g2,g3⟩:=rl.still hb hi e1
      refine⟨_,g2,g3,g1,.single ?_⟩
      simp only[VR]
      refine⟨y,0,.agg us,rfl,⟨us.toList,(VRl.fz e2 c2).mono (Lz g2),by simp⟩,us,e,(0,0),if_pos rfl,fun j u hj=>?_⟩
      rw[Nat.zero_add]
      exact⟨by simpa [Value.cells] using hj,hones u (List.mem_of_getElem? hj)⟩
    · cases hq
  |.agg l,h,h',r,hq=>by
    unfold Di at hq
    split at hq
    · rename_i r' h1 hl
      cases hq
      intro B φ w vs rl hv
      obtain⟨v,rfl,hv1⟩:=hv.single_inv;clear hv;have hv:=hv1
      simp only[VR] at hv
      obtain⟨us,hu,rfl⟩:=hv
      obtain⟨F',f1,f2,f3,f4⟩:=frzVl_ok hl B φ w us rl hu
      exact⟨F',f1,f2,f3,.single (by simp only[VR];exact⟨us,f4,rfl⟩)⟩
    · cases hq
  |.tup l,h,h',r,hq=>by
    unfold Di at hq
    split at hq
    · rename_i r' h1 hl
      cases hq
      intro B φ w vs rl hv
      obtain⟨v,rfl,hv1⟩:=hv.single_inv;clear hv;have hv:=hv1
      simp only[VR] at hv
      obtain⟨us,hu,rfl⟩:=hv
      obtain⟨F',f1,f2,f3,f4⟩:=frzVl_ok hl B φ w us rl hu
      exact⟨F',f1,f2,f3,.single (by simp only[VR];exact⟨us,f4,rfl⟩)⟩
    · cases hq
  |.fn f fi cap,h,h',r,hq=>by
    unfold Di at hq
    obtain⟨c1,hq⟩:=Dn hq
    split at hq
    · rename_i r' h1 hl
      cases hq
      intro B φ w vs rl hv
      obtain⟨v,rfl,hv1⟩:=hv.single_inv;clear hv;have hv:=hv1
      simp only[VR] at hv
      obtain⟨vf,vc,e1,e2,rfl⟩:=hv
      obtain⟨F',f1,f2,f3,f4⟩:=frzVl_ok hl B φ w vc rl e2
      exact⟨F',f1,f2,f3,.single (by simp only[VR];exact⟨vf,vc,(VRl.fz e1 c1).mono (Lz f1),f4,rfl⟩)⟩
    · cases hq
  |.bool _,h,h',r,hq=>by unfold Di at hq;obtain⟨c1,hq⟩:=Dn hq;cases hq;exact E5 c1
  |.int _ _,h,h',r,hq=>by unfold Di at hq;obtain⟨c1,hq⟩:=Dn hq;cases hq;exact E5 c1
  |.str _,h,h',r,hq=>by unfold Di at hq;obtain⟨c1,hq⟩:=Dn hq;cases hq;exact E5 c1
  |.nilp,h,h',r,hq=>by unfold Di at hq;obtain⟨c1,hq⟩:=Dn hq;cases hq;exact E5 c1
  |.nils,h,h',r,hq=>by unfold Di at hq;obtain⟨c1,hq⟩:=Dn hq;cases hq;exact E5 c1
  |.sle,h,h',r,hq=>by unfold Di at hq;obtain⟨c1,hq⟩:=Dn hq;cases hq;exact E5 c1
  |.map b,h,h',r,hq=>by
    unfold Di at hq
    split at hq
    · rename_i g e sz hb
      cases hq
      intro B φ w vs rl hv
      obtain⟨v,rfl,hv1⟩:=hv.single_inv;clear hv;have hv:=hv1
      simp only[VR] at hv
      obtain⟨x0,κ,e0,rfl⟩:=hv
      obtain⟨x1,κ1,es,clk,m,h1,h2,h3,h4,h5,h6,h7,h8,h9⟩:=rl.obj b _ hb
      rw[e0] at h1;cases h1
      haveI:∀k,Decidable (img φ b (.mm g none e sz) k):=fun k=>Classical.propDecidable _
      have hF:∀k,img φ b (.mm g none e sz) k→(if img φ b (.mm g none e sz) k then w.heap[k]? else φ.f k)=w.heap[k]? := fun k hk=>if_pos hk
      have hxi:img φ b (.mm g none e sz) x0:=.inl (by rw[e0];rfl)
      have hle:∀k o,φ.f k=some o→(if img φ b (.mm g none e sz) k then w.heap[k]? else φ.f k)=some o:=fun k o hk=>by
        rw[if_neg (fun i=>by rw[(rl.gf b _ k hb i).2.2] at hk;cases hk)];exact hk
      refine⟨fun k=>if img φ b (.mm g none e sz) k then w.heap[k]? else φ.f k,hle,fun k o hk=>?_,?_,.single ?_⟩
      · by_cases hi:img φ b (.mm g none e sz) k
        · exact .inr (rl.gf b _ k hb hi).1
        · simp only[if_neg hi] at hk;exact .inl hk
      · refine(rl.del b).frame (fun c o' e1=>SameO.of_le (leF hle) (rl.obj c o' (Dx e1).2)) rl.below (Nat.le_refl _) (fun k o' hk=>?_) (fun c o' j e1 i1=>⟨rfl,?_⟩)
        · by_cases hi:img φ b (.mm g none e sz) k
          · simp only[if_pos hi] at hk;exact hk
          · simp only[if_neg hi] at hk;exact rl.fro k o' hk
        · have hni:¬img φ b (.mm g none e sz) j:=fun hi=>(Dx e1).1 (rl.sep c b o' _ j (Dx e1).2 hb i1 hi)
          simp only[if_neg hni];exact(rl.gf c o' j (Dx e1).2 i1).2.2
      · simp only[VR]
        refine⟨x0,es,clk,m,rfl,?_,h3,fun s=>⟨fun u hu=>?_,fun hu=>?_⟩⟩
        · show(if img φ b (.mm g none e sz) x0 then w.heap[x0]? else φ.f x0)=_
          rw[hF x0 hxi];exact h2
        · obtain⟨us,q2,q3,q4⟩:=h6 s u hu (by simp)
          have hlen:=q3.length
          rcases q2.2 with⟨rfl,hn⟩|⟨gb,cap,cur,rfl,hg1,hg2,hg3,hg4,hg5,hg6⟩
          · exact⟨fun _=>undef,fun i hi=>by omega,.inl ⟨hn,.inl rfl⟩⟩
          · refine⟨fun i=>nth us i,fun i hi=>(q3.nth hi).mono ⟨fun _ _ e=>(by cases e),fun _ _ e=>(by cases e),hle⟩,?_⟩
            have hgi:img φ b (.mm g none e sz) gb:=by
              obtain⟨l,b1,b2⟩:=Pe (hole:=none) h4 hu (by simp)
              exact .inr ⟨l,by rw[h5,b1],_,b2,rfl⟩
            exact Se (F:=fun k=>if img φ b (.mm g none e sz) k then w.heap[k]? else φ.f k) ((hF gb hgi).trans hg2) hlen hg3 q4 hg6
        · have:=h7 s hu
          exact⟨fun _=>undef,fun i hi=>by rw[this] at hi;simp at hi,.inl ⟨by rw[this];rfl,.inl rfl⟩⟩
    · cases hq
  |.nilm,h,h',r,hq=>by unfold Di at hq;obtain⟨c1,hq⟩:=Dn hq;cases hq;exact E5 c1
  |.nilf,h,h',r,hq=>by unfold Di at hq;obtain⟨c1,hq⟩:=Dn hq;cases hq;exact E5 c1
  |.ifc _ _,h,h',r,hq=>by unfold Di at hq;obtain⟨c1,hq⟩:=Dn hq;cases hq;exact E5 c1
  |.nili,h,h',r,hq=>by unfold Di at hq;obtain⟨c1,hq⟩:=Dn hq;cases hq;exact E5 c1
  |.raw _,h,h',r,hq=>by unfold Di at hq;obtain⟨c1,hq⟩:=Dn hq;cases hq;exact E5 c1
  |.row _ _ _,h,h',r,hq=>by unfold Di at hq;obtain⟨c1,hq⟩:=Dn hq;cases hq;exact E5 c1
  |.fp _,h,h',r,hq=>by unfold Di at hq;obtain⟨c1,hq⟩:=Dn hq;cases hq;exact E5 c1
  |.cond _ _,h,h',r,hq=>by unfold Di at hq;obtain⟨c1,hq⟩:=Dn hq;cases hq;exact E5 c1
  |.op _ _,h,h',r,hq=>by unfold Di at hq;obtain⟨c1,hq⟩:=Dn hq;cases hq;exact E5 c1
  |.smap _ _,h,h',r,hq=>by unfold Di at hq;obtain⟨c1,hq⟩:=Dn hq;cases hq;exact E5 c1
  |.clo _,h,h',r,hq=>by unfold Di at hq;obtain⟨c1,hq⟩:=Dn hq;cases hq;exact E5 c1
theorem frzVl_ok {P:Program}:∀{l:List AV} {h h':AH} {r:List AV},frzVl P h l=some (r,h')→La h l r h'
  |[],h,h',r,hq=>by cases hq;exact X6t
  |a::l,h,h',r,hq=>by
    unfold frzVl at hq
    split at hq
    · rename_i b h1 ha
      split at hq
      · rename_i r' h2 hl
        cases hq
        exact X6u (Ty ha) (frzVl_ok hl)
      · cases hq
    · cases hq
end
def Same (r r':AV):Prop:=∀F v,VR (ofF F) r v→VR (ofF F) r' v
theorem Same.rfl' {r:AV}:Same r r:=fun _ _ h=>h
theorem Same.trans {a b c:AV} (h:Same a b) (k:Same b c):Same a c:=fun F v q=>k F v (h F v q)
theorem Same.row {sz n:Nat} {f g:Nat→AV} (h:∀i,i < n→Same (f i) (g i)):Same (.row sz n f) (.row sz n g):=by
  intro F v k
  simp only[VR] at k ⊢
  obtain⟨u,k1,k2⟩:=k
  exact⟨u,fun i hi=>h i hi F _ (k1 i hi),k2⟩
def Ac {α:Type} [Inhabited α] (sz:Nat) (f:α→AV) (l:List α):AV:=.row sz l.length (fun i=>f (nth l i))
theorem Same.list {α:Type} [Inhabited α] {sz:Nat} {f:α→AV} {l:List α} {n:Nat} (hn:n=l.length):Same (.row sz n (fun i=>(l.map f).getD i Bp)) (Ac sz f l):=by
  subst hn
  refine Same.row fun i hi=>?_
  have:(l.map f).getD i Bp=f (nth l i):=by
    simp only[List.getD_eq_getElem?_getD,List.getElem?_map,nth,List.getElem?_eq_getElem hi,Option.map_some,Option.getD_some]
  rw[this];exact Same.rfl'
theorem Same.grown {α:Type} [Inhabited α] {sz:Nat} {f:α→AV} {l:List α} {es:List AV} (h:es=l.map f):Same (.row sz es.length (fun i=>es.getD i Bp)) (Ac sz f l):=by
  subst h;exact Same.list (by rw[List.length_map])
theorem Same.nil {α:Type} [Inhabited α] {sz:Nat} {f:α→AV}:Same .nils (Ac sz f []):=by
  intro F v k
  simp only[VR] at k;subst k
  unfold Ac
  simp only[VR]
  exact⟨fun _=>undef,fun i hi=>absurd hi (by simp),.inl ⟨rfl,.inl rfl⟩⟩
theorem Same.agg {l m:List AV} (h:∀F vs,VRl (ofF F) l vs→VRl (ofF F) m vs):Same (.agg l) (.agg m):=by
  intro F v k
  simp only[VR] at k ⊢
  obtain⟨vs,k1,k2⟩:=k;exact⟨vs,h F vs k1,k2⟩
theorem Same.tup {l m:List AV} (h:∀F vs,VRl (ofF F) l vs→VRl (ofF F) m vs):Same (.tup l) (.tup m):=by
  intro F v k
  simp only[VR] at k ⊢
  obtain⟨vs,k1,k2⟩:=k;exact⟨vs,h F vs k1,k2⟩
theorem SameL.cons {a b:AV} {l m:List AV} (h:Same a b) (k:∀F vs,VRl (ofF F) l vs→VRl (ofF F) m vs):∀F vs,VRl (ofF F) (a::l) vs→VRl (ofF F) (b::m) vs:=by
  intro F vs q
  obtain⟨v,vs',rfl,q1,q2⟩:=q.cons_inv
  exact .cons (h F v q1) (k F vs' q2)
theorem SameL.nil:∀F vs,VRl (ofF F) [] vs→VRl (ofF F) [] vs:=fun _ _ h=>h
theorem FnV.to {P:Program} {f:Nat} {al:List AV} {r r':AV} (h:FnV P f al r) (e:Same r r'):FnV P f al r':=fun F w vs h1 h2=>(h F w vs h1 h2).mono fun en w' hh=>by
  obtain⟨v,hv,hb,F',q1,q2,q3,q4⟩:=hh
  exact⟨v,hv,hb,F',q1,q2,q3,e _ _ q4⟩
noncomputable def I8:Nat→List AV→Fr
  |_,[]=>[]
  |i,a::l=>(i,a)::I8 (i+1) l
noncomputable def An:List AV→AV
  |[a]=>a
  |l => .tup l
theorem P4 {φ:Phi}:∀{al:List AV} {vs:List Value} {i t:Nat} {a:AV},VRl φ al vs→Cl t (I8 i al)=some a→i≤t∧VR φ a (vs.getD (t-i) undef)∧t-i < vs.length
  |[],_,_,_,_,_,h=>by cases h
  |b::l,vs,i,t,a,hv,h=>by
    obtain⟨v,vs',rfl,h1,h2⟩:=hv.cons_inv
    simp only[I8,Cl] at h
    rcases Du i t with⟨e,q⟩|⟨e,q⟩<;>rw[e] at h
    · cases h;subst q
      simp only[Nat.sub_self]
      exact⟨Nat.le_refl _,h1,by simp⟩
    · obtain⟨k1,k2,k3⟩:=P4 h2 h
      refine⟨by omega,?_,by simp only[List.length_cons];omega⟩
      rw[show t-i=(t-(i+1))+1 by omega]
      exact k2
end Sv
end
section
open Go Go.RowKit
namespace Sv
noncomputable def Pr:List Value→Value
  |[v]=>v
  |l => .tuple l.toArray
noncomputable def Xd (P:Program) (x:St):ResultVar→Option AV
  |.tmp t=>Cl t x.s
  |.cell t ty=>match Cl t x.s with
    |some (.ptr b o)=>Kt P ty (.ptr b o) x.h
    |_=>none
noncomputable def Hw (P:Program):List ResultVar→St→Option (List AV)
  |[],_=>some []
  |r::l,x=>match Xd P x r with
    |some a=>match Hw P l x with
      |some m=>some (a::m)
      |none=>none
    |none=>none
noncomputable def Lq (a:Act):ResultVar→Sem Value
  |.tmp t=>pure (a.tmps.getD t undef)
  |.cell x t=>do loadVar t (←asAddr (a.tmps.getD x undef))
theorem Pb {P:Program} {B:Bas} {φ:Phi} {n:Nat} {σ:Nat→Value} {w:World} {x:St} (hf:FRel φ n x.s σ) (r:Rel B φ x.h w):∀{l:List ResultVar} {m:List AV},Hw P l x=some m→∃vs,VRl φ m vs∧(l.mapM (m:=Sem) (Lq (mk n σ))).run P w = .ok vs w
  |[],_,h=>by cases h;exact⟨[],.nil,by simp[go_sem]⟩
  |y::l,_,h=>by
    unfold Hw at h
    split at h
    · rename_i b hb
      split at h
      · rename_i m hm
        cases h
        obtain⟨vs,h1,h2⟩:=Pb hf r hm
        cases y with
        |tmp t =>
          have hv:=hf t b hb
          refine⟨sl n σ t::vs,.cons hv h1,?_⟩
          have hA:(Lq (mk n σ) (.tmp t)).run P w = .ok (sl n σ t) w:=by rw[←H3];rfl
          rw[List.mapM_cons,Sem.run_bind,hA,Result.andThen_ok,Sem.run_bind,h2];rfl
        |cell t ty =>
          unfold Xd at hb
          simp only at hb
          split at hb
          · rename_i c o hc
            have hv:=hf t _ hc
            obtain⟨v,g1,g2⟩:=Z3 (P:=P) hb hv r
            refine⟨v::vs,.cons g2 h1,?_⟩
            simp only[VR] at hv
            obtain⟨z,κ,_,hv⟩:=hv
            have hl:(loadVar ty ⟨z,o,none⟩).run P w = .ok v w:=by
              rw[hv] at g1
              simpa only [Instr.loadAt,Instr.sureAddr,Sem.run_bind,Sem.run_pure,Result.andThen_ok] using g1
            have hA:(Lq (mk n σ) (.cell t ty)).run P w = .ok v w:=by simp only[Lq,H3,hv,asAddr,Sem.run_bind,Sem.run_pure,Result.andThen_ok,hl]
            rw[List.mapM_cons,Sem.run_bind,hA,Result.andThen_ok,Sem.run_bind,h2];rfl
          · cases hb
      · cases h
    · cases h
theorem Sk {P:Program} {fn:Func} {a:Act} {rs:List ResultVar} {vs:List Value} {w:World} (hr:fn.results=rs.toArray) (h:(rs.mapM (m:=Sem) (Lq a)).run P w = .ok vs w):(results fn a.tmps).run P w = .ok (Pr vs) w:=by
  unfold results
  rw[Array.mapM_eq_mapM_toList]
  simp only[Sem.run_bind,Sem.run_map]
  have h3:∀g:ResultVar→Sem Value,(∀x,g x=Lq a x)→(fn.results.toList.mapM (m:=Sem) g).run P w = .ok vs w:=by
    intro g hg
    rw[funext hg,hr];exact h
  rw[h3 _ (fun x=>by cases x<;>rfl)]
  match vs with
  |[]=>rfl
  |[v]=>rfl
  |v::u::l=>rfl
def Sj (P:Program) (rs:List ResultVar) (r:AV):Exit→St→Prop:=fun e x=>(e = .ret∨e = .normal)∧∃al rl h',Hw P rs x=some al∧frzVl P x.h al=some (rl,h')∧Same (An rl) r
theorem Q7g {P:Program} {rs:List ResultVar} {r:AV} {x:St} {al rl:List AV} {h':AH} {e:Exit} (he:e = .ret∨e = .normal) (h1:Hw P rs x=some al) (h2:frzVl P x.h al=some (rl,h')) (h3:Same (An rl) r):Sj P rs r e x:=⟨he,al,rl,h',h1,h2,h3⟩
theorem Sx {φ:Phi} {al:List AV} {vs:List Value} (h:VRl φ al vs):VR φ (An al) (Pr vs):=by
  match al,h with
  |[],h=>rw[h.nil_inv];simp only[An,Pr,VR];exact⟨[],.nil,rfl⟩
  |[a],h=>obtain⟨v,rfl,hv⟩:=h.single_inv;exact hv
  |a::b::l,h =>
    obtain⟨v,vs',rfl,h1,h2⟩:=h.cons_inv
    obtain⟨u,vs'',rfl,h3,h4⟩:=h2.cons_inv
    simp only[An,Pr,VR];exact⟨_,.cons h1 (.cons h3 h4),rfl⟩
theorem A5 {P : Program} {f : FuncId} {fn : Func} {c : Code} {n : Nat} {al : List AV} {r : AV} (rs : List ResultVar) (hf : P.funcs[f]? = some fn) (hb : fn.body = some c) (hn : fn.ntmps = n) (hr : fn.results = rs.toArray) (ha : Nat.ble al.length n = true)
    (h:∀(B:Bas) (F:Cx),F.lo=0→SW P n c B F (Sj P rs r) ⟨I8 0 al,[],0⟩):FnV P f al r:=by
  intro F w vs hF hv
  have hlen:=hv.length
  have hal:al.length≤n:=Nat.le_of_ble_eq_true ha
  refine Ig hf hb hn ?_ (by rw[hlen];exact ha)
  have hx:Holds ⟨w,fun k=>k < w.heap.size,fun _ h=>h⟩ ⟨F,fun _=>none,0,fun _ _ e=>by cases e⟩ n ⟨I8 0 al,[],0⟩ (ofF F) (I7 vs) w:=by
    refine⟨fun t a e=>?_,⟨⟨rfl,rfl,rfl,Nat.le_refl _,fun _ _=>rfl⟩,hF,fun b o e=>(by cases e),fun b b' o o' k e=>(by cases e),fun b o k e=>(by cases e)⟩,fun b _=>⟨rfl,rfl⟩,fun b o e=>e,fun b o e => .inl e,fun b o e=>(by cases e)⟩
    obtain⟨h1,h2,h3⟩:=P4 hv e
    rw[Nat.sub_zero] at h2 h3
    have ht:Nat.blt t n=true:=by simp only[Nat.blt_eq];omega
    simp only[sl,ht,cond_true,I7];exact h2
  refine Hr (h _ _ rfl _ _ _ hx) ?_
  rintro e σ' w' ⟨y,φ',hy,he,al',rl,h',k1,k2,k3⟩
  obtain⟨vs',hvs,hrun⟩:=Pb (P:=P) hy.fr hy.rel k1
  obtain⟨F',f1,f2,f3,f4⟩:=frzVl_ok k2 _ φ' w' _ hy.rel hvs
  have fin:K5 P n fn (Ret fun v w''=>Below w.heap.size w w''∧∃F',(∀b o,F b=some o→F' b=some o)∧Fro F' w''∧(∀b o,F' b=some o→F b=some o∨w.heap.size≤b)∧VR (ofF F') r v) .ret σ' w':=by
    refine⟨_,Sk hr hrun,_,rfl,⟨hy.rel.below.os,hy.rel.below.tape,hy.rel.below.output,hy.rel.below.size,hy.rel.below.block⟩,F',fun b o q=>f1 b o (hy.old b o q),f3.fro,fun b o q=>((f2 b o q).elim (hy.new b o) .inr).imp id Nat.le_of_not_lt,k3 _ _ (Sx f4)⟩
  rcases he with rfl|rfl
  · exact fin
  · exact fin
noncomputable def P3 (n:Nat):Fr→Bool
  |[]=>true
  |(_,a)::r=>low n a&&P3 n r
noncomputable def Z0 (n:Nat):AO→Bool
  |.row c _=>lowl n c
  |_=>true
noncomputable def Dl (n:Nat):AH→Option AH
  |[]=>some []
  |(k,o)::r=>match Dl n r with
    |some r'=>bif Nat.blt k n then (bif Z0 n o then some ((k,o)::r') else none) else some r'
    |none=>none
theorem Jw {n:Nat}:∀{h h':AH},Dl n h=some h'→∀b o,Bh b h'=some o→b < n∧Bh b h=some o∧Z0 n o=true
  |[],_,e,b,o,k=>by cases e;cases k
  |(c,x)::r,_,e,b,o,k=>by
    unfold Dl at e
    split at e
    · rename_i r' hr
      cases hlt:Nat.blt c n with
      |true =>
        rw[hlt,cond_true] at e
        obtain⟨e1,e2⟩:=Dn e
        cases e2
        simp only[Bh] at k ⊢
        rcases Du c b with⟨q,q'⟩|⟨q,q'⟩<;>rw[q] at k ⊢
        · cases k;subst q';exact⟨by simpa [Nat.blt_eq] using hlt,rfl,e1⟩
        · exact Jw hr b o k
      |false =>
        rw[hlt,cond_false] at e
        cases e
        obtain⟨h1,h2,h3⟩:=Jw hr b o k
        have hcn : ¬ c < n := by intro h; have : Nat.blt c n = true := by simpa [Nat.blt_eq] using h
                                 rw[this] at hlt;cases hlt
        refine⟨h1,?_,h3⟩
        simp only[Bh]
        rw[Hp (by omega)];exact h2
    · cases e
theorem Z1 {n:Nat}:∀{s:Fr},P3 n s=true→∀t a,Cl t s=some a→low n a=true
  |[],_,_,_,k=>by cases k
  |(u,b)::r,h,t,a,k=>by
    simp only[P3,Bool.and_eq_true] at h
    simp only[Cl] at k
    rcases Du u t with⟨q,_⟩|⟨q,_⟩<;>rw[q] at k
    · cases k;exact h.1
    · exact Z1 h.2 t a k
noncomputable def gcS (ts:List Nat) (n:Nat) (x:St):Option St:=match Gh ts x.s with
  |some s=>match Dl n x.h with
    |some h=>bif P3 n s then some ⟨s,h,n⟩ else none
    |none=>none
  |none=>none
section
variable {P : Program} {B : Bas} {w : World} {F : Cx} {n : Nat} {φ : Phi} {σ : Nat → Value} {K : Exit → St → Prop} {x y : St}
theorem Rel.cut {h h':AH} {m:Nat} (r:Rel B φ h w) (k:Dl m h=some h'):Rel B (φ.cut m) h' w:=by
  have hs:∀b o,Bh b h'=some o→SameO φ (φ.cut m) b o:=by
    intro b o e
    obtain⟨h1,h2,h3⟩:=Jw k b o e
    have hm:(φ.cut m) b=φ b:=if_pos h1
    have hss:(φ.cut m).s b=φ.s b:=if_pos h1
    cases o with
    |row c e=>exact⟨hm,fun vs q=>VRl.cut q h3⟩
    |grow es e sz=>exact⟨hss,fun _ _ q=>q⟩
    |map es clk=>exact⟨hm,fun _ _ q=>q⟩
    |siter t p=>exact hm
    |mm g ho e sz=>exact⟨hm,hss,fun _ _ q=>q⟩
  refine⟨r.below,r.fro,fun b o e=>(r.obj b o (Jw k b o e).2.1).imp (hs b o e) (fun _ _=>rfl),fun b b' o o' j e e' i i'=>?_,fun b o j e i=>?_⟩
  · rw[(hs b o e).img] at i;rw[(hs b' o' e').img] at i'
    exact r.sep b b' o o' j (Jw k b o e).2.1 (Jw k b' o' e').2.1 i i'
  · rw[(hs b o e).img] at i
    exact r.gf b o j (Jw k b o e).2.1 i
theorem Holds.gc {ts:List Nat} {m:Nat} (h:Holds B F n x φ σ w) (hlo:F.lo≤m) (k:gcS ts m x=some y):Holds B F n y (φ.cut m) σ w:=by
  unfold gcS at k
  split at k
  · rename_i s hs
    split at k
    · rename_i hh hc
      obtain⟨k1,k2⟩:=Dn k
      cases k2
      exact⟨fun t a e=>((h.sel hs).fr t a e).cut (Z1 k1 t a e),h.rel.cut hc,fun b (hb:m≤b)=>⟨if_neg (by omega),if_neg (by omega)⟩,h.old,h.new,fun b o e=>(if_pos (Nat.lt_of_lt_of_le (F.hm b o e) hlo)).trans (h.base b o e)⟩
    · cases k
  · cases k
theorem Rg {c:Code} (ts:List Nat) (m:Nat) (hlo:F.lo≤m) (k:gcS ts m x=some y) (h:SW P n c B F K y):SW P n c B F K x:=fun φ σ w hx=>h _ _ _ (hx.gc hlo k)
noncomputable def Rv (e sz t:Nat) (x:St):Option St:=match Cl t x.s with
  |some a=>match M4 e sz a x.h x.nx with
    |some (b,h,nx)=>some ⟨Fh t (.own b) x.s,h,nx⟩
    |none=>none
  |none=>none
theorem VR.slice {a:AV} {v:Value} (h:VR φ a v) (ha:(match a with | .own _=>true | .nils=>true | .sl _ _ _ _ _=>true|_=>false)=true):∃p q r,v = .slice p q r:=by
  cases a<;>simp only[Bool.false_eq_true] at ha
  · simp only[VR] at h;obtain⟨_,_,_,⟨_,_,rfl⟩|⟨_,rfl⟩⟩:=h<;>exact⟨_,_,_,rfl⟩
  · simp only[VR] at h;subst h;exact⟨_,_,_,rfl⟩
  · simp only[VR] at h;obtain⟨_,a,b,c,rfl⟩:=h;exact⟨_,_,_,rfl⟩
theorem Holds.thaw {e sz t:Nat} (h:Holds B F n x φ σ w) (hsz:Nat.blt 0 sz=true) (k:Rv e sz t x=some y):∃φ',Holds B F n y φ' σ w:=by
  unfold Rv at k
  split at k
  · rename_i a ha
    split at k
    · rename_i b h1 nx1 hb
      cases k
      have hv:=h.fr _ _ ha
      obtain⟨φ1,hle,r1,d1,hs1,hf1⟩:=Ru hb (by simpa [Nat.blt_eq] using hsz) hv h.rel h.dom
      have hsl:∃p q r,sl n σ t = .slice p q r:=by
        refine hv.slice ?_
        unfold M4 at hb
        split at hb<;>first|rfl|cases hb
      refine⟨φ1,fun u c e=>?_,r1,d1,fun b o q=>by rw[hf1];exact h.old b o q,fun b o q=>by rw[hf1] at q;exact h.new b o q,fun b o q=>hle.m _ _ (h.base b o q)⟩
      by_cases hu:u=t
      · subst hu
        rw[Nt] at e;cases e
        simp only[VR];exact⟨hs1,hsl⟩
      · rw[Nu _ hu] at e
        exact(h.fr u c e).mono hle
    · cases k
  · cases k
theorem Mu {c:Code} (e sz t:Nat) (hsz:Nat.blt 0 sz=true) (k:Rv e sz t x=some y) (h:SW P n c B F K y):SW P n c B F K x:=fun φ σ w hx=>by
  obtain⟨φ',hh⟩:=hx.thaw hsz k
  exact h _ _ _ hh
end
end Sv
end
section
open Go Go.RowKit
namespace Sv
def WG (P:Program) (n:Nat) (ops:Array Oper) (Q:(Nat→Value)→World→Prop) (H:World→Prop) (fuel:Nat) (listed:Array Bool) (σ:Nat→Value) (w:World):Prop :=
  wpAnyH P .any ops (fun e a w=>e = .normal∧∃σ,a=mk n σ∧Q σ w) H fuel listed (mk n σ) w
section
variable {P : Program} {n : Nat} {σ : Nat → Value} {w : World}
theorem X6v {Q : Exit → (Nat → Value) → World → Prop} {id : Nat} {l : List Oper} (H : World → Prop) (hm : P.follows .mixedOrders = true)
    (h:WG P n l.toArray (Q .normal) H l.length (Array.replicate l.length false) σ (w.drewN 1)):W P n (.region id l.toArray true) Q σ w:=by
  unfold W
  refine wp_mono (wp_region_any hm (wpAny_of_held _ _ _ _ h)) ?_
  rintro e a w ⟨rfl,σ',ha,hq⟩
  exact⟨σ',ha,hq⟩
variable {ops : Array Oper} {Q : (Nat → Value) → World → Prop} {fuel : Nat} {listed : Array Bool} {H : World → Prop}
theorem X68 (hS : H w) (i : Nat) {o : Oper} {v : Value} (hi : ops[i]? = some o) (hs : Region.noSelect ops = true) (hf : Region.free .any ops listed i = true) (hr : (Region.ready .any ops listed).contains i = true)
    (hg:gOk ops n σ o.guard=true) (h:∀w',H w'→(execOp (ev n σ) o).run P w' = .ok (.value v) w') (next:WG P n ops Q H fuel (listed.setIfInBounds i true) (Ci σ o.dst v) w):WG P n ops Q H (fuel+1) listed σ w:=by
  unfold WG
  refine wpAnyH_take hi hs hf hr (fun c a w h=>by cases h.1) (.inl ⟨by rw[wanted_mk];exact hg,fun w' hw'=>by rw[Gm];exact h w' hw'⟩) hS ?_
  rw[G3];exact next
theorem X69 (hS : H w) (i : Nat) {o : Oper} (hi : ops[i]? = some o) (hs : Region.noSelect ops = true) (hf : Region.free .any ops listed i = true) (hr : (Region.ready .any ops listed).contains i = true)
    (hg:gOk ops n σ o.guard=false) (next:WG P n ops Q H fuel (listed.setIfInBounds i true) (Ci σ o.dst undef) w):WG P n ops Q H (fuel+1) listed σ w:=by
  unfold WG
  refine wpAnyH_take hi hs hf hr (fun c a w h=>by cases h.1) (.inr ⟨by rw[wanted_mk];exact hg,rfl⟩) hS ?_
  rw[G3];exact next
theorem X7b (hr:Region.ready .any ops listed=[]) (h:Q σ w):WG P n ops Q H fuel listed σ w:=by
  unfold WG
  exact wpAnyH_done hr ⟨rfl,σ,rfl,h⟩ fuel
theorem X7a (i : Nat) {o : Oper} (hr : Region.ready .any ops listed = [i]) (hi : ops[i]? = some o)
    (h:WO P n ops [o] (fun e σ' w'=>e = .normal∧H w'∧WG P n ops Q H fuel (listed.setIfInBounds i true) σ' w') σ w):WG P n ops Q H (fuel+1) listed σ w:=by
  unfold WG
  refine wpAnyH_all hr (by simp) fun j hj=>?_
  obtain rfl:j=i:=by simpa using hj
  unfold WO wpList at h
  unfold wpOp
  simp only[hi]
  have ho:¬LetsOut (F8 n fun e σ' w'=>e = .normal∧H w'∧WG P n ops Q H fuel (listed.setIfInBounds j true) σ' w'):=by
    rintro⟨a,w,σ',_,h,_⟩;cases h
  have hk : ∀ a w', wpList P ops (F8 n fun e σ' w' => e = .normal ∧ H w' ∧ WG P n ops Q H fuel (listed.setIfInBounds j true) σ' w') [] a w' →
      (H w'∧wpAnyH P .any ops (fun e a w=>e = .normal∧∃σ,a=mk n σ∧Q σ w) H fuel (listed.setIfInBounds j true) a w'):=by
    rintro a w' ⟨σ',rfl,_,hb,hx⟩;exact⟨hb,hx⟩
  split at h
  · rename_i hw
    rw[if_pos hw]
    rcases h with h|⟨_,h⟩
    · exact .inl (Rn hk (fun c a w hc=>by obtain⟨_,_,hc,_⟩:=hc;cases hc) ho h)
    · exact absurd h ho
  · rename_i hw
    rw[if_neg hw];exact hk _ _ h
end
attribute [irreducible] WG
noncomputable def Md (P:Program) (E:Bool) (eA:Operand→Option AV) (o:Oper):PC:=match Pk P eA o with
  |some r=>some r
  |none=>match o.op with
    |.load t x=>match eA x with
      |some (.fp a)=>bif E then (match Kt P t (.fp a) [] with
        |some r=>some (r,none)
        |none=>none) else none
      |_=>none
    |_=>none
noncomputable def Ln (P:Program) (E:Bool) (n:Nat) (ops:Array Oper) (lz:List Nat) (o:Oper) (x:St):Option (St × Option Prop):=match o.guard with
  |none=>match Md P E (evA x.s) o with
    |some (a,C)=>match B6 n o.dst a x.s with
      |some s'=>some (⟨s',x.h,x.nx⟩,C)
      |none=>none
    |none=>none
  |some (j,want)=>match H8 ops.toList j with
    |some t=>match N2 want (Cl t x.s) with
      | some q => bif inL o.dst lz then (match Md P E (Hu (Jn o.op) (evA x.s)) o with
          |some (a,C)=>match B6 n o.dst (.cond q a) x.s with
            |some s'=>some (⟨s',x.h,x.nx⟩,match I9 (Em (evA x.s) (Jn o.op)) C with
              |some p=>some (q=true→p)
              |none=>none)
            |none=>none
          |none=>none) else (bif q then (match Md P E (evA x.s) o with
          |some (a,C)=>match B6 n o.dst a x.s with
            |some s'=>some (⟨s',x.h,x.nx⟩,C)
            |none=>none
          |none=>none) else match B6 n o.dst (.tup []) x.s with
            |some s'=>some (⟨s',x.h,x.nx⟩,none)
            |none=>none)
      |_=>none
    |none=>none
def SG (P:Program) (n:Nat) (ops:Array Oper) (B:Bas) (F:Cx) (K:St→Prop) (F0:Cx) (E:Bool) (fuel:Nat) (listed:Array Bool) (x:St):Prop :=
  ∀φ σ w,Holds B F0 n x φ σ w→(E=true→φ.f=F0.f)→WG P n ops (fun σ w=>∃y φ,Holds B F0 n y φ σ w∧K y) (Fro F0.f) fuel listed σ w
section
variable {P : Program} {B : Bas} {w : World} {F F0 : Cx} {n : Nat} {φ : Phi} {σ : Nat → Value} {K : Exit → St → Prop} {KK : St → Prop} {x : St} {E : Bool} {ops : Array Oper} {fuel : Nat} {listed : Array Bool}
theorem Holds.hold (h:Holds B F0 n x φ σ w):Fro F0.f w:=fun b o e=>h.rel.fro b o (h.old b o e)
theorem Holds.drew (h:Holds B F n x φ σ w):Holds B F n x φ σ (w.drewN 1):=⟨h.fr,h.rel.drew,h.dom,h.old,h.new,h.base⟩
def Q9r (k:(Nat→Value)→World→Prop):Exit→(Nat→Value)→World→Prop
  |.normal,σ,w=>k σ w
  |_,_,_=>False
theorem J4 {id:Nat} {l:List Oper} (hm:P.follows .mixedOrders=true) (h:∀F0:Cx,F0.lo=F.lo→SG P n l.toArray B F (K .normal) F0 true l.length (Array.replicate l.length false) x):SW P n (.region id l.toArray true) B F K x:=by
  intro φ σ w hx
  have hh:Holds B ⟨φ.f,F.m,F.lo,F.hm⟩ n x φ σ (w.drewN 1):=⟨hx.drew.fr,hx.drew.rel,hx.dom,fun _ _ e=>e,fun _ _ e => .inl e,hx.base⟩
  have hg:=h ⟨φ.f,F.m,F.lo,F.hm⟩ rfl φ σ _ hh (fun _=>rfl)
  refine Hr (X6v (Q:=Q9r fun σ w=>∃y φ',Holds B ⟨φ.f,F.m,F.lo,F.hm⟩ n y φ' σ w∧K .normal y) (Fro φ.f) hm hg) ?_
  intro e σ' w' he
  cases e with
  |normal =>
    obtain⟨y,φ',hy,hk⟩:=he
    exact⟨y,φ',⟨hy.fr,hy.rel,hy.dom,fun b o q=>hy.old b o (hx.old b o q),fun b o q=>(hy.new b o q).elim (hx.new b o) .inr,hy.base⟩,hk⟩
  |_=>exact he.elim
theorem X0w {h:AH} {t:Nat} {a r:AV} {v:Value} (hl:Kt P t (.fp a) h=some r) (hx:VR φ (.fp a) v):∃u,VR φ r u∧∀w,Fro φ.f w→(Instr.loadAt t v).run P w = .ok u w:=by
  have agg:∀{w:World} {b o n:Nat} {us:List Value},Ha P t=some true→tsz P t=some n→us.length=n→(∀j v,us[j]? = some v→w.cell? ⟨b,o+j,none⟩=some v)→(Instr.loadAt t (.pointer (some ⟨b,o,none⟩))).run P w = .ok (.agg us.toArray) w:=by
    intro w b o n us ha hn hl hc
    have:=run_loadCells_list (P:=P) w ⟨b,o,none⟩ us (fun j v hj=>by rw[Eg];exact hc j v hj)
    rw[hl] at this
    simp only[Instr.loadAt,Instr.sureAddr,Sem.run_bind,Sem.run_pure,Result.andThen_ok,loadVar,J1 ha,if_true,C3 hn,this]
  have sca:∀{w:World} {b o:Nat} {v:Value},Ha P t=some false→w.cell? ⟨b,o,none⟩=some v→(Instr.loadAt t (.pointer (some ⟨b,o,none⟩))).run P w = .ok v w:=by
    intro w b o v ha hc
    simp[Instr.loadAt,Instr.sureAddr,loadVar,J1 ha,hc,go_sem]
  simp only[VR] at hx
  obtain⟨b,o,u,rfl,hu,hlie⟩:=hx
  unfold Kt at hl
  split at hl
  · rename_i e;cases e
  · rename_i l e
    cases e
    simp only[VR] at hu
    obtain⟨vs,hvs,rfl⟩:=hu
    have hcs:(Value.agg vs.toArray).cells.toList=vs:=by simp[Value.cells]
    rw[hcs] at hlie
    split at hl
    · rename_i ha
      split at hl
      · rename_i n hn
        obtain⟨h3,h4⟩:=Eb (f:=none) hl
        cases h4
        have hlen:=hvs.length
        exact⟨_,by simp only[VR];exact⟨vs,hvs.mono (Phi.le_fz φ),rfl⟩,fun w hw=>agg ha hn (us:=vs) (by rw[hlen,Nat.eq_of_beq_eq_true h3]) (fun j v hj=>Ku hw hlie hj)⟩
      · cases hl
    · rename_i ha
      split at hl
      · rename_i a l'
        cases hl
        obtain⟨v,vs',rfl,h1,_⟩:=hvs.cons_inv
        exact⟨v,h1.mono (Phi.le_fz φ),fun w hw=>sca ha (by have:=Ku hw hlie (j:=0) rfl;simpa using this)⟩
      · cases hl
    · cases hl
  · rename_i a' hna e
    cases e
    split at hl
    · rename_i ha
      obtain⟨h3,h4⟩:=Eb (f:=none) hl
      cases h4
      have h1:=(hu.one h3).2
      rw[h1] at hlie
      exact⟨u,hu.mono (Phi.le_fz φ),fun w hw=>sca ha (by have:=Ku hw hlie (j:=0) rfl;simpa using this)⟩
    · cases hl
  · cases hl
theorem X16 {eA:Operand→Option AV} (hev:EVR φ eA (ev n σ)) (hE:E=true→φ.f=F0.f) {o:Oper} {a:AV} {C:Option Prop} (ho:Md P E eA o=some (a,C)) (hC:Bn C):∃v,(∀w,Fro F0.f w→(execOp (ev n σ) o).run P w = .ok (.value v) w)∧VR φ a v:=by
  unfold Md at ho
  split at ho
  · rename_i q hq
    cases ho
    obtain⟨v,h1,h2⟩:=Xt hev hq hC
    exact⟨v,fun w _=>h1 w,h2⟩
  · obtain⟨dst,op,ty,ps,af,g⟩:=o
    split at ho
    · rename_i t x' hop
      simp only at hop;subst hop
      split at ho
      · rename_i a' ha
        obtain⟨hE1,ho⟩:=Dn ho
        split at ho
        · rename_i q hq
          cases ho
          obtain⟨u,k1,k2⟩:=X0w hq (hev _ _ ha)
          exact⟨u,fun w hw=>by simp only[execOp,Sem.run_bind,k2 w (by rw[hE hE1];exact hw),Result.andThen_ok,Sem.run_pure],k1⟩
        · cases ho
      · cases ho
    · cases ho
theorem Q48 (i : Nat) (lz : List Nat) {o : Oper} {y : St} {C : Option Prop} (hi : ops[i]? = some o) (hs : Region.noSelect ops = true) (hf : Region.free .any ops listed i = true) (hr : (Region.ready .any ops listed).contains i = true)
    (h:Ln P E n ops lz o x=some (y,C)) (hC:Bn C) (next:SG P n ops B F KK F0 E fuel (listed.setIfInBounds i true) y):SG P n ops B F KK F0 E (fuel+1) listed x:=by
  intro φ σ w hx hE
  have take : ∀ {eA : Operand → Option AV} {a b : AV} {C : Option Prop} {s' : Fr}, EVR φ eA (ev n σ) → gOk ops n σ o.guard = true → Md P E eA o = some (a, C) → Bn C → B6 n o.dst b x.s = some s' → (∀ v, VR φ a v → VR φ b v) → y = ⟨s', x.h, x.nx⟩ →
      WG P n ops (fun σ w=>∃y φ,Holds B F0 n y φ σ w∧KK y) (Fro F0.f) (fuel+1) listed σ w:=by
    intro eA a b C s' hev hg hfr hC hp hab hy
    subst hy
    obtain⟨v,h1,h2⟩:=X16 hev hE hfr hC
    exact X68 hx.hold i hi hs hf hr hg h1 (next φ _ w ⟨hx.fr.put hp (hab v h2),hx.rel,hx.dom,hx.old,hx.new,hx.base⟩ hE)
  have pass:∀{b:AV} {s':Fr},gOk ops n σ o.guard=false→B6 n o.dst b x.s=some s'→VR φ b undef→y=⟨s',x.h,x.nx⟩→WG P n ops (fun σ w=>∃y φ,Holds B F0 n y φ σ w∧KK y) (Fro F0.f) (fuel+1) listed σ w:=by
    intro b s' hg hp hb hy
    subst hy
    exact X69 hx.hold i hi hs hf hr hg (next φ _ w ⟨hx.fr.put hp hb,hx.rel,hx.dom,hx.old,hx.new,hx.base⟩ hE)
  unfold Ln at h
  cases hgd:o.guard with
  |none =>
    rw[hgd] at h
    simp only at h
    split at h
    · rename_i a C' hfr
      split at h
      · rename_i s' hp
        cases h
        exact take hx.fr.ev (by rw[hgd];rfl) hfr hC hp (fun _ k=>k) rfl
      · cases h
    · cases h
  |some g =>
    obtain⟨j,want⟩:=g
    rw[hgd] at h
    simp only at h
    split at h
    · rename_i t ht
      split at h
      · rename_i q hq
        have hgk:gOk ops n σ o.guard=q:=by rw[hgd];simp only[gOk,ht];exact Tv hx.fr hq
        cases hlz:inL o.dst lz with
        |true =>
          rw[hlz,cond_true] at h
          split at h
          · rename_i a C' hro
            split at h
            · rename_i s' hp
              cases h
              cases hw:q with
              |false=>exact pass (by rw[hgk,hw]) hp (by rw[hw];exact Jb) rfl
              |true =>
                have hC':Bn (I9 (Em (evA x.s) (Jn o.op)) C'):=by
                  revert hC
                  cases I9 (Em (evA x.s) (Jn o.op)) C' with
                  |none=>intro _;trivial
                  |some p=>intro h;exact h hw
                obtain⟨c1,c2⟩:=Oh hC'
                exact take (Lj hx.fr c1) (by rw[hgk,hw]) hro c2 hp (fun v k=>by rw[hw];exact Lc k) rfl
            · cases h
          · cases h
        |false =>
          rw[hlz,cond_false] at h
          cases hw:q with
          |true =>
            rw[hw,cond_true] at h
            split at h
            · rename_i a C' hfr
              split at h
              · rename_i s' hp
                cases h
                exact take hx.fr.ev (by rw[hgk,hw]) hfr hC hp (fun _ k=>k) rfl
              · cases h
            · cases h
          |false =>
            rw[hw,cond_false] at h
            split at h
            · rename_i s' hp
              cases h
              exact pass (by rw[hgk,hw]) hp M3 rfl
            · cases h
      · cases h
    · cases h
theorem X7t (i : Nat) (lz : List Nat) {o : Oper} {y : St} {C : Option Prop} (hr : Region.ready .any ops listed = [i]) (hi : ops[i]? = some o) (h : Jh P n ops lz o x = some (y, C)) (hC : Bn C)
    (next:SG P n ops B F KK F0 E fuel (listed.setIfInBounds i true) y):SG P n ops B F KK F0 E (fuel+1) listed x:=by
  intro φ σ w hx hE
  exact X7a i hr hi (R2 hx h hC fun φ' σ' w' hh e=>C9 ⟨rfl,hh.hold,next φ' σ' w' hh (fun q=>e.trans (hE q))⟩)
theorem Hd (hr:Region.ready .any ops listed=[]) (h:KK x):SG P n ops B F KK F0 E fuel listed x:=fun φ σ w hx _=>X7b hr ⟨x,φ,hx,h⟩
theorem Vv {s:Fr} (ts:List Nat) (h:Gh ts x.s=some s) (k:SG P n ops B F KK F0 E fuel listed ⟨s,x.h,x.nx⟩):SG P n ops B F KK F0 E fuel listed x:=fun φ σ w hx hE=>k φ σ w (hx.sel h) hE
theorem X7e {c : Code} (I : Nat → St → Prop) (ts : List Nat) (m : Nat) {y : St} (g : Nat) (hlo : F.lo ≤ m) (k : gcS ts m x = some y) (h0 : I g y)
    (round:∀g y,I g y→SW P n c B F (Ke (fun z=>∃z',gcS ts m z=some z'∧∃g',g' < g∧I g' z') K) y):SW P n (.loop c) B F K x:=by
  refine Rg ts m hlo k ?_
  intro φ σ w hx
  refine Q4p (fun g σ w=>∃y φ,Holds B F n y φ σ w∧I g y) ⟨g,y,φ,hx,h0⟩ ?_
  rintro g σ w ⟨y,φ,hy,hI⟩
  refine Hr (round g y hI φ σ w hy) ?_
  rintro e σ' w' ⟨z,φ',h1,h2⟩
  cases e with
  |normal=>obtain⟨z',hz,g',hg,hI'⟩:=h2;exact⟨g',hg,z',_,h1.gc hlo hz,hI'⟩
  |_=>exact⟨z,φ',h1,h2⟩
theorem hold {p:Prop} (h:p):Bn (some p):=h
theorem A2:Bn none:=trivial
theorem Gd {o:Operand} {c d:Code} (hq:evA x.s o=some (.bool true)) (h:SW P n c B F K x):SW P n (.cond o c d) B F K x:=A8 hq (fun _=>h) (fun e=>by cases e)
theorem Eh {o:Operand} {c d:Code} (hq:evA x.s o=some (.bool false)) (h:SW P n d B F K x):SW P n (.cond o c d) B F K x:=A8 hq (fun e=>by cases e) (fun _=>h)
theorem Dt {o:Operand} {c d:Code} {p:Prop} [Decidable p] (hq:evA x.s o=some (.bool (!decide p))) (ht:¬p→SW P n c B F K x) (hf:p→SW P n d B F K x):SW P n (.cond o c d) B F K x :=
  A8 hq (fun h=>ht (by simpa using h)) (fun h=>hf (by simpa using h))
theorem Same.of_eq {a b:AV} (h:a=b):Same a b:=by subst h;exact Same.rfl'
end
attribute [irreducible] SG
end Sv
end
section
open Go Go.RowKit
namespace Sv
noncomputable def Hk (ops:Array Oper) (s:Fr):Option (Nat × Bool)→Option Bool
  |none=>some true
  |some (j,want)=>match H8 ops.toList j with
    |some t=>N2 want (Cl t s)
    |none=>none
def Imp (a a':AV):Prop:=∀φ v,VR φ a v→VR φ a' v
theorem Imp.same {a b:AV} (h:Imp a b):Same a b:=fun F v=>h (ofF F) v
theorem Imp.row {sz n:Nat} {f g:Nat→AV} (h:∀i,i < n→Imp (f i) (g i)):Imp (.row sz n f) (.row sz n g):=by
  intro φ v k
  simp only[VR] at k ⊢
  obtain⟨u,k1,k2⟩:=k
  exact⟨u,fun i hi=>h i hi φ.fz _ (k1 i hi),k2⟩
theorem Imp.of_eq {a b:AV} (h:a=b):Imp a b:=by subst h;exact fun _ _ k=>k
section
variable {P : Program} {B : Bas} {w : World} {F F0 : Cx} {n : Nat} {φ : Phi} {σ : Nat → Value} {K : Exit → St → Prop} {x : St} {ops : Array Oper}
theorem Ky {g:Option (Nat × Bool)} {q:Bool} (h:FRel φ n x.s σ) (k:Hk ops x.s g=some q):gOk ops n σ g=q:=by
  cases g with
  |none=>cases k;rfl
  |some g =>
    obtain⟨j,want⟩:=g
    unfold Hk at k
    unfold gOk
    simp only at k ⊢
    split at k
    · rename_i t ht
      rw[ht];exact Tv h k
    · cases k
theorem X7m {rest : List Oper} {f : FuncId} {ar : Array Operand} {ts : Array TypeId} {ty : TypeId} {ps : String} {dst : Option Tmp} {af : Array Edge} {g : Option (Nat × Bool)} {al : List AV} {r : AV} {s' : Fr} {q : Bool}
    (hg:Hk ops x.s g=some q) (he:Au P f) (ha:Ea (Hu ar.toList (evA x.s)) ar.toList=some al) (hn:q=true→Bn (Em (evA x.s) ar.toList)) (hz:frzl al=true) (hf:q=true→FnV P f al r) (hp:B6 n dst (.cond q r) x.s=some s')
    (next:SO P n ops rest B F K ⟨s',x.h,x.nx⟩):SO P n ops (⟨dst,.call { callee:=.value (.func f),args:=ar,argTypes:=ts },ty,ps,af,g⟩::rest) B F K x:=by
  intro φ σ w hx
  have hgk:=Ky hx.fr hg
  cases q with
  |false=>exact Fd hgk (next φ _ w ⟨hx.fr.put hp Jb,hx.rel,hx.dom,hx.old,hx.new,hx.base⟩)
  |true =>
    have hv:=(Fq (Lj hx.fr (hn rfl)) ha).fz hz
    refine Gc hgk he (hf rfl φ.f w _ hx.rel.fro hv) ?_
    rintro v w' ⟨hb,F',h1,h2,h3,h4⟩
    have hh:=hx.called hb h1 h2 h3
    exact next _ _ _ ⟨hh.fr.put hp (Lc (h4.mono (Phi.le_fz ⟨φ.m,φ.s,F'⟩))),hh.rel,hh.dom,hh.old,hh.new,hh.base⟩
theorem Holds.conv {t:Nat} {a b:AV} (h:Holds B F n x φ σ w) (k:Cl t x.s=some a) (i:Imp a b):Holds B F n ⟨Fh t b x.s,x.h,x.nx⟩ φ σ w:=by
  refine⟨fun u c e=>?_,h.rel,h.dom,h.old,h.new,h.base⟩
  by_cases hu:u=t
  · subst hu;rw[Nt] at e;cases e;exact i φ _ (h.fr u a k)
  · rw[Nu _ hu] at e;exact h.fr u c e
theorem Vr {c:Code} (t:Nat) {a:AV} (b:AV) (k:Cl t x.s=some a) (i:Imp a b) (h:SW P n c B F K ⟨Fh t b x.s,x.h,x.nx⟩):SW P n c B F K x:=fun φ σ w hx=>h φ σ w (hx.conv k i)
theorem Ft {l:List Oper} (t:Nat) {a:AV} (b:AV) (k:Cl t x.s=some a) (i:Imp a b) (h:SO P n ops l B F K ⟨Fh t b x.s,x.h,x.nx⟩):SO P n ops l B F K x:=fun φ σ w hx=>h φ σ w (hx.conv k i)
end
noncomputable def Qd (P:Program) (E:Bool) (n:Nat) (ops:Array Oper) (lz:List Nat):List Nat→Array Bool→St→Option (St × Option Prop × Array Bool)
  |[],listed,x=>some (x,none,listed)
  |i::l,listed,x=>match ops[i]? with
    |some o=>bif Region.free .any ops listed i&&(Region.ready .any ops listed).contains i then (match Ln P E n ops lz o x with
      |some (y,C)=>match Qd P E n ops lz l (listed.setIfInBounds i true) y with
        |some (z,D,L)=>some (z,I9 C D,L)
        |none=>none
      |none=>none) else none
    |none=>none
noncomputable def Mc (P:Program) (E:Bool) (n:Nat) (ops:Array Oper) (lz is ts:List Nat) (listed:Array Bool) (x:St):Option (St × Option Prop × Array Bool):=match Qd P E n ops lz is listed x with
  |some (y,C,L)=>match Gh ts y.s with
    |some s=>some (⟨s,y.h,y.nx⟩,C,L)
    |none=>none
  |none=>none
section
variable {P : Program} {B : Bas} {w : World} {F F0 : Cx} {n : Nat} {KK : St → Prop} {E : Bool} {ops : Array Oper}
theorem Q47 {lz:List Nat} {fuel:Nat} (hs:Region.noSelect ops=true):∀{is:List Nat} {listed L:Array Bool} {x y:St} {C:Option Prop},Qd P E n ops lz is listed x=some (y,C,L)→Bn C→SG P n ops B F KK F0 E fuel L y→SG P n ops B F KK F0 E (fuel+is.length) listed x
  |[],listed,L,x,y,C,h,hC,next=>by cases h;exact next
  |i::l,listed,L,x,y,C,h,hC,next=>by
    unfold Qd at h
    split at h
    · rename_i o ho
      obtain⟨h1,h2⟩:=Dn h
      simp only[Bool.and_eq_true] at h1
      split at h2
      · rename_i z C1 hz
        split at h2
        · rename_i u D L' hu
          cases h2
          obtain⟨c1,c2⟩:=Oh hC
          exact Q48 i lz ho hs h1.1 h1.2 hz c1 (Q47 hs hu c2 next)
        · cases h2
      · cases h2
    · cases h
theorem X7v {lz:List Nat} {fuel fuel':Nat} (is ts:List Nat) {listed L:Array Bool} {x y:St} {C:Option Prop} (hs:Region.noSelect ops=true) (h:Mc P E n ops lz is ts listed x=some (y,C,L)) (hf:fuel'=fuel+is.length) (hC:Bn C) (next:SG P n ops B F KK F0 E fuel L y):SG P n ops B F KK F0 E fuel' listed x:=by
  subst hf
  unfold Mc at h
  split at h
  · rename_i z C' L' hz
    split at h
    · rename_i s hsel
      cases h
      exact Q47 hs hz hC (Vv ts hsel next)
    · cases h
  · cases h
end
abbrev C4 (l:List (List UInt8)):AV:=Ac 1 AV.str l
abbrev Ag (l:List Int):AV:=Ac 1 (AV.int .i64) l
end Sv
end
section
open Go Go.RowKit
namespace Sv
def Gu (φ:Phi) (h:AH) (w:World):Bas:=⟨w,fun k=>k < w.heap.size∧∀i o,Bh i h=some o→¬img φ i o k,fun _ h=>h.1⟩
def Gf (P:Program) (f:Nat) (al:List AV) (h:AH) (nx:Nat) (r:AV) (h':AH):Prop:=∀(B0:Bas) (φ:Phi) (w:World) (vs:List Value),Rel B0 φ h w→VRl φ al vs→Calls P f vs.toArray w (Ret fun v w'=>∃φ',
  Rel (Gu φ h w) φ' h' w'∧VR φ' r v∧(∀b x,b < nx→φ b=some x→φ' b=some x)∧(∀b o,φ.f b=some o→φ'.f b=some o)∧∀b o,φ'.f b=some o→φ.f b=some o∨¬(Gu φ h w).old b)
def Xc (P:Program) (rs:List ResultVar) (r:AV) (h':AH) (nx:Nat):Exit→St→Prop:=fun e x=>(e = .ret∨e = .normal)∧∃al,Hw P rs x=some al∧An al=r∧Dl nx x.h=some h'
theorem Ej {P:Program} {rs:List ResultVar} {r:AV} {h':AH} {nx:Nat} {x:St} {al:List AV} {e:Exit} (he:e = .ret∨e = .normal) (h1:Hw P rs x=some al) (h2:An al=r) (h3:Dl nx x.h=some h'):Xc P rs r h' nx e x:=⟨he,al,h1,h2,h3⟩
theorem Le {P : Program} {f : FuncId} {fn : Func} {c : Code} {n nx : Nat} {al : List AV} {r : AV} {h h' : AH} (rs : List ResultVar) (hf : P.funcs[f]? = some fn) (hb : fn.body = some c) (hn : fn.ntmps = n) (hr : fn.results = rs.toArray) (ha : Nat.ble al.length n = true)
    (hH:Dl nx h=some h) (hal:lowl nx al=true) (hrl:low nx r=true) (k:∀(B:Bas) (F:Cx),F.lo=nx→SW P n c B F (Xc P rs r h' nx) ⟨I8 0 al,h,nx⟩):Gf P f al h nx r h':=by
  intro B0 φ w vs hrel hv
  have hlen:=hv.length
  have hal':al.length≤n:=Nat.le_of_ble_eq_true ha
  have hcut:=hrel.cut hH
  have himg:∀b o,Bh b h=some o→img (φ.cut nx) b o=img φ b o:=by
    intro b o e
    have:=(Jw hH b o e).1
    funext k
    cases o<;>simp only[img]<;>first|rw[show(φ.cut nx) b=φ b from if_pos this,show(φ.cut nx).s b=φ.s b from if_pos this]|rw[show(φ.cut nx) b=φ b from if_pos this]|rw[show(φ.cut nx).s b=φ.s b from if_pos this]
  have hcm:∀b x,(if b < nx then φ b else none)=some x→b < nx:=by
    intro b x e
    by_cases hb:b < nx
    · exact hb
    · rw[if_neg hb] at e;cases e
  have hx:Holds (Gu φ h w) ⟨φ.f,fun b=>if b < nx then φ b else none,nx,hcm⟩ n ⟨I8 0 al,h,nx⟩ (φ.cut nx) (I7 vs) w:=by
    refine⟨fun t a e=>?_,⟨⟨rfl,rfl,rfl,Nat.le_refl _,fun _ _=>rfl⟩,hcut.fro,hcut.obj,hcut.sep,fun b o k e i=>?_⟩,fun b hb=>⟨if_neg (by simpa using hb),if_neg (by simpa using hb)⟩,fun b o e=>e,fun b o e => .inl e,fun b x e=>e⟩
    · obtain⟨h1,h2,h3⟩:=P4 (hv.cut hal) e
      rw[Nat.sub_zero] at h2 h3
      have ht:Nat.blt t n=true:=by simp only[Nat.blt_eq];omega
      simp only[sl,ht,cond_true,I7];exact h2
    · have:=hcut.gf b o k e i
      exact⟨fun q=>q.2 b o e (by rw[←himg b o e];exact i),this.2⟩
  refine Ig hf hb hn ?_ (by rw[hlen];exact ha)
  refine Hr (k _ _ rfl _ _ _ hx) ?_
  rintro e σ' w' ⟨y,φ1,hy,he,al',k1,k2,k3⟩
  obtain⟨vs',hvs,hrun⟩:=Pb (P:=P) hy.fr hy.rel k1
  have fin:K5 P n fn (Ret fun v w''=>∃φ',Rel (Gu φ h w) φ' h' w''∧VR φ' r v∧(∀b x,b < nx→φ b=some x→φ' b=some x)∧(∀b o,φ.f b=some o→φ'.f b=some o)∧∀b o,φ'.f b=some o→φ.f b=some o∨¬(Gu φ h w).old b) .ret σ' w':=by
    refine⟨_,Sk hr hrun,_,rfl,φ1.cut nx,hy.rel.cut k3,?_,fun b x hb q=>(if_pos hb).trans (hy.base b x ((if_pos hb).trans q)),hy.old,hy.new⟩
    have:=Sx hvs
    rw[k2] at this
    exact this.cut hrl
  rcases he with rfl|rfl
  · exact fin
  · exact fin
noncomputable def idx (b:Nat):List Nat→Option Nat
  |[]=>none
  |x::r=>bif Nat.beq x b then some 0 else match idx b r with
    |some i=>some (i+1)
    |none=>none
theorem Jr:∀{ks:List Nat} {b i:Nat},idx b ks=some i→ks[i]? = some b
  |[],_,_,h=>by cases h
  |x::r,b,i,h=>by
    unfold idx at h
    rcases Du x b with⟨e,q⟩|⟨e,q⟩<;>rw[e] at h
    · cases h;rw[q];rfl
    · rw[cond_false] at h
      split at h
      · rename_i j hj;cases h;simpa using Jr hj
      · cases h
theorem Qb:∀{ks:List Nat} {b:Nat},idx b ks=none→∀i:Nat,ks[i]? ≠ some b
  |[],_,_,i=>by simp
  |x::r,b,h,i=>by
    unfold idx at h
    rcases Du x b with⟨e,q⟩|⟨e,q⟩<;>rw[e] at h
    · cases h
    · rw[cond_false] at h
      split at h
      · cases h
      · rename_i hj
        cases i with
        |zero=>simp;exact q
        |succ i=>simpa using Qb hj i
noncomputable def F5:List Nat→Bool
  |[]=>true
  |x::r=>(match idx x r with|some _=>false|none=>true)&&F5 r
theorem Za:∀{ks:List Nat},F5 ks=true→∀{i j b:Nat},ks[i]? = some b→ks[j]? = some b→i=j
  |[],_,_,_,_,h,_=>by simp at h
  |x::r,h,i,j,b,h1,h2=>by
    simp only[F5,Bool.and_eq_true] at h
    have hx:idx x r=none:=by
      have:=h.1
      cases hq:idx x r with
      |none=>rfl
      |some _=>rw[hq] at this;cases this
    cases i with
    |zero =>
      cases j with
      |zero=>rfl
      |succ j=>simp at h1 h2;subst h1;exact absurd h2 (Qb hx j)
    |succ i =>
      cases j with
      |zero=>simp at h1 h2;subst h2;exact absurd h1 (Qb hx i)
      |succ j=>simp at h1 h2;rw[Za h.2 h1 h2]
theorem N0 {ks:List Nat} (hn:F5 ks=true) {i b:Nat} (h:ks[i]? = some b):idx b ks=some i:=by
  cases hq:idx b ks with
  |none=>exact absurd h (Qb hq i)
  |some j=>rw[Za hn (Jr hq) h]
def Phi.pull (φ:Phi) (ks:List Nat):Phi:=⟨fun i=>(ks[i]?).bind fun b=>φ b,fun i=>(ks[i]?).bind fun b=>φ.s b,φ.f⟩
mutual
noncomputable def E6 (ks:List Nat):AV→Option AV
  |.ptr b o=>match idx b ks with|some i=>some (.ptr i o)|none=>none
  |.sl b o n c op=>match idx b ks with|some i=>some (.sl i o n c op)|none=>none
  |.map b=>match idx b ks with|some i=>some (.map i)|none=>none
  |.own b=>match idx b ks with|some i=>some (.own i)|none=>none
  |.op b o=>match idx b ks with|some i=>some (.op i o)|none=>none
  |.fn f fi cap=>match renL ks fi,renL ks cap with|some x,some y=>some (.fn f x y)|_,_=>none
  |.ifc t a=>match E6 ks a with|some x=>some (.ifc t x)|none=>none
  |.agg l=>match renL ks l with|some x=>some (.agg x)|none=>none
  |.tup l=>match renL ks l with|some x=>some (.tup x)|none=>none
  |.cond q a=>match E6 ks a with|some x=>some (.cond q x)|none=>none
  |a=>some a
noncomputable def renL (ks:List Nat):List AV→Option (List AV)
  |[]=>some []
  |a::l=>match E6 ks a,renL ks l with|some x,some y=>some (x::y)|_,_=>none
end
theorem Q7k {ks:List Nat}:∀{a x:AV},E6 ks a=some x→Ny x=Ny a:=by
  intro a x h
  cases a<;>unfold E6 at h<;>repeat' split at h
  all_goals first|cases h;rfl|cases h
theorem H2 {φ:Phi} {ks:List Nat} {b i:Nat} (h:idx b ks=some i):(φ.pull ks) i=φ b:=by simp[Phi.pull,Jr h]
theorem Nk {φ:Phi} {ks:List Nat} {b i:Nat} (h:idx b ks=some i):(φ.pull ks).s i=φ.s b:=by simp[Phi.pull,Jr h]
mutual
theorem VR.pull {ks:List Nat}:∀{a a':AV} {φ:Phi} {v:Value},E6 ks a=some a'→VR φ a v→VR (φ.pull ks) a' v
  |.bool _,_,_,_,h,k=>by cases h;exact k
  |.int _ _,_,_,_,h,k=>by cases h;exact k
  |.str _,_,_,_,h,k=>by cases h;exact k
  |.ptr b o,_,_,_,h,k=>by
    unfold E6 at h;split at h
    · rename_i i hi;cases h;simp only[VR] at k ⊢;rw[H2 hi];exact k
    · cases h
  |.nilp,_,_,_,h,k=>by cases h;exact k
  |.sl b o n c op,_,_,_,h,k=>by
    unfold E6 at h;split at h
    · rename_i i hi;cases h;simp only[VR] at k ⊢;rw[H2 hi];exact k
    · cases h
  |.nils,_,_,_,h,k=>by cases h;exact k
  |.sle,_,_,_,h,k=>by cases h;exact k
  |.map b,_,_,_,h,k=>by
    unfold E6 at h;split at h
    · rename_i i hi;cases h;simp only[VR] at k ⊢;rw[H2 hi];exact k
    · cases h
  |.nilm,_,_,_,h,k=>by cases h;exact k
  |.fn f fi cap,_,_,_,h,k=>by
    unfold E6 at h;split at h
    · rename_i x y hx hy;cases h
      simp only[VR] at k ⊢
      obtain⟨a,b,e1,e2,r⟩:=k;exact⟨a,b,VRl.pull hx e1,VRl.pull hy e2,r⟩
    · cases h
  |.nilf,_,_,_,h,k=>by cases h;exact k
  |.ifc t a,_,_,_,h,k=>by
    unfold E6 at h;split at h
    · rename_i x hx;cases h
      simp only[VR] at k ⊢
      obtain⟨u,e,r⟩:=k;exact⟨u,VR.pull hx e,r⟩
    · cases h
  |.nili,_,_,_,h,k=>by cases h;exact k
  |.agg l,_,_,_,h,k=>by
    unfold E6 at h;split at h
    · rename_i x hx;cases h
      simp only[VR] at k ⊢
      obtain⟨u,e,r⟩:=k;exact⟨u,VRl.pull hx e,r⟩
    · cases h
  |.tup l,_,_,_,h,k=>by
    unfold E6 at h;split at h
    · rename_i x hx;cases h
      simp only[VR] at k ⊢
      obtain⟨u,e,r⟩:=k;exact⟨u,VRl.pull hx e,r⟩
    · cases h
  |.raw _,_,_,_,h,k=>by cases h;exact k
  |.row _ _ _,_,_,_,h,k=>by cases h;simp only[VR] at k ⊢;exact k
  |.fp _,_,_,_,h,k=>by cases h;simp only[VR] at k ⊢;exact k
  |.own b,_,_,_,h,k=>by
    unfold E6 at h;split at h
    · rename_i i hi;cases h;simp only[VR] at k ⊢;rw[Nk hi];exact k
    · cases h
  |.op b _,_,_,_,h,k=>by
    unfold E6 at h;split at h
    · rename_i i hi;cases h;simp only[VR] at k ⊢;rw[Nk hi];exact k
    · cases h
  |.smap _ _,_,_,_,h,k=>by cases h;simp only[VR] at k ⊢;exact k
  |.clo _,_,_,_,h,k=>by cases h;simp only[VR] at k ⊢;exact k
  |.cond q a,_,_,_,h,k=>by
    unfold E6 at h;split at h
    · rename_i x hx;cases h
      simp only[VR] at k ⊢
      exact⟨fun q=>VR.pull hx (k.1 q),fun e=>k.2 ((Q7k hx).symm.trans e)⟩
    · cases h
theorem VRl.pull {ks:List Nat}:∀{l l':List AV} {φ:Phi} {vs:List Value},renL ks l=some l'→VRl φ l vs→VRl (φ.pull ks) l' vs
  |[],_,_,_,h,k=>by cases h;exact k
  |a::l,_,φ,_,h,k=>by
    unfold renL at h;split at h
    · rename_i x y hx hy;cases h
      obtain⟨v,vs',rfl,h1,h2⟩:=k.cons_inv
      exact .cons (VR.pull hx h1) (VRl.pull hy h2)
    · cases h
end
noncomputable def Kg (ks:List Nat):AO→Option AO
  |.row c e=>match renL ks c with|some x=>some (.row x e)|none=>none
  |o=>some o
noncomputable def Jf (ks:List Nat) (h:AH):Nat→List Nat→Option AH
  |_,[]=>some []
  |i,b::l=>match Bh b h with
    |some o=>match Kg ks o,Jf ks h (i+1) l with
      |some o',some r=>some ((i,o')::r)
      |_,_=>none
    |none=>none
theorem O2 {ks:List Nat} {h:AH}:∀{l:List Nat} {i:Nat} {r:AH},Jf ks h i l=some r→∀j o,Bh j r=some o→i≤j∧∃b o0,l[j-i]? = some b∧Bh b h=some o0∧Kg ks o0=some o
  |[],_,_,e,j,o,k=>by cases e;cases k
  |b::l,i,r,e,j,o,k=>by
    unfold Jf at e
    split at e
    · rename_i o0 ho
      split at e
      · rename_i o' r' h1 h2
        cases e
        simp only[Bh] at k
        rcases Du i j with⟨q,q'⟩|⟨q,q'⟩<;>rw[q] at k
        · cases k;subst q'
          exact⟨Nat.le_refl _,b,o0,by simp,ho,h1⟩
        · obtain⟨g1,b',o1,g2,g3,g4⟩:=O2 h2 j o k
          exact⟨by omega,b',o1,by rw[show j-i=(j-(i+1))+1 by omega];simpa using g2,g3,g4⟩
      · cases e
    · cases e
theorem L7 {φ:Phi} {ks:List Nat} {b i:Nat} (h:idx b ks=some i) {o o':AO} (ho:Kg ks o=some o'):img (φ.pull ks) i o'=img φ b o:=by
  funext k
  cases o<;>simp only[Kg] at ho
  case row c e =>
    split at ho
    · cases ho;simp only[img,H2 h]
    · cases ho
  all_goals (cases ho;simp only[img,H2 h,Nk h])
theorem Rel.pull {B:Bas} {φ:Phi} {h H:AH} {w:World} {ks:List Nat} (r:Rel B φ h w) (hn:F5 ks=true) (k:Jf ks h 0 ks=some H):Rel B (φ.pull ks) H w:=by
  have get:∀i o,Bh i H=some o→∃b o0,idx b ks=some i∧Bh b h=some o0∧Kg ks o0=some o:=by
    intro i o e
    obtain⟨_,b,o0,g1,g2,g3⟩:=O2 k i o e
    exact⟨b,o0,N0 hn (by simpa using g1),g2,g3⟩
  refine⟨r.below,r.fro,fun i o e=>?_,fun i j o o' q e e' i1 i2=>?_,fun i o q e i1=>?_⟩
  · obtain⟨b,o0,g1,g2,g3⟩:=get i o e
    have ha:=r.obj b o0 g2
    cases o0<;>simp only[Kg] at g3
    case row c e' =>
      split at g3
      · rename_i x hx;cases g3
        obtain⟨y,κ,vs,a1,a2,a3⟩:=ha
        exact⟨y,κ,vs,by rw[H2 g1];exact a1,a2,a3.pull hx⟩
      · cases g3
    case grow es e' sz=>cases g3;obtain⟨v,vs,a1,a2⟩:=ha;exact⟨v,vs,by rw[Nk g1];exact a1,a2⟩
    case map es clk=>cases g3;obtain⟨x,κ,l,a1,a2⟩:=ha;exact⟨x,κ,l,by rw[H2 g1];exact a1,a2⟩
    case siter s p=>cases g3;obtain⟨x,κ,a1,a2⟩:=ha;exact⟨x,κ,by rw[H2 g1];exact a1,a2⟩
    case mm g ho e' sz=>cases g3;obtain⟨x,κ,es,clk,m,a1,a2,a3,a4,a5,a6⟩:=ha;exact⟨x,κ,es,clk,m,by rw[H2 g1];exact a1,a2,a3,a4,by rw[Nk g1];exact a5,a6⟩
  · obtain⟨b,o0,g1,g2,g3⟩:=get i o e
    obtain⟨b',o1,g4,g5,g6⟩:=get j o' e'
    rw[L7 g1 g3] at i1;rw[L7 g4 g6] at i2
    have:=r.sep b b' o0 o1 q g2 g5 i1 i2
    subst this
    rw[g1] at g4;exact Option.some.inj g4
  · obtain⟨b,o0,g1,g2,g3⟩:=get i o e
    rw[L7 g1 g3] at i1
    exact r.gf b o0 q g2 i1
mutual
noncomputable def unA (ks:List Nat):AV→Option AV
  |.ptr i o=>match ks[i]? with|some b=>some (.ptr b o)|none=>none
  |.sl i o n c op=>match ks[i]? with|some b=>some (.sl b o n c op)|none=>none
  |.map i=>match ks[i]? with|some b=>some (.map b)|none=>none
  |.own i=>match ks[i]? with|some b=>some (.own b)|none=>none
  |.op i o=>match ks[i]? with|some b=>some (.op b o)|none=>none
  |.fn f fi cap=>match unL ks fi,unL ks cap with|some x,some y=>some (.fn f x y)|_,_=>none
  |.ifc t a=>match unA ks a with|some x=>some (.ifc t x)|none=>none
  |.agg l=>match unL ks l with|some x=>some (.agg x)|none=>none
  |.tup l=>match unL ks l with|some x=>some (.tup x)|none=>none
  |.cond q a=>match unA ks a with|some x=>some (.cond q x)|none=>none
  |a=>some a
noncomputable def unL (ks:List Nat):List AV→Option (List AV)
  |[]=>some []
  |a::l=>match unA ks a,unL ks l with|some x,some y=>some (x::y)|_,_=>none
end
noncomputable def Phi.push (φ φ':Phi) (ks:List Nat):Phi:=⟨fun b=>match idx b ks with|some i=>φ' i|none=>φ b,fun b=>match idx b ks with|some i=>φ'.s i|none=>φ.s b,φ'.f⟩
theorem Q5y {ks:List Nat}:∀{a x:AV},unA ks a=some x→Ny x=Ny a:=by
  intro a x h
  cases a<;>unfold unA at h<;>repeat' split at h
  all_goals first|cases h;rfl|cases h
theorem Ir {φ φ':Phi} {ks:List Nat} (hn:F5 ks=true) {i b:Nat} (h:ks[i]? = some b):(φ.push φ' ks) b=φ' i:=by simp[Phi.push,N0 hn h]
theorem Nj {φ φ':Phi} {ks:List Nat} (hn:F5 ks=true) {i b:Nat} (h:ks[i]? = some b):(φ.push φ' ks).s b=φ'.s i:=by simp[Phi.push,N0 hn h]
mutual
theorem VR.push {ks:List Nat} (hn:F5 ks=true) {φ φ':Phi}:∀{a a':AV} {v:Value},unA ks a=some a'→VR φ' a v→VR (φ.push φ' ks) a' v
  |.bool _,_,_,h,k=>by cases h;exact k
  |.int _ _,_,_,h,k=>by cases h;exact k
  |.str _,_,_,h,k=>by cases h;exact k
  |.ptr b o,_,_,h,k=>by
    unfold unA at h;split at h
    · rename_i i hi;cases h;simp only[VR] at k ⊢;rw[Ir hn hi];exact k
    · cases h
  |.nilp,_,_,h,k=>by cases h;exact k
  |.sl b o n c op,_,_,h,k=>by
    unfold unA at h;split at h
    · rename_i i hi;cases h;simp only[VR] at k ⊢;rw[Ir hn hi];exact k
    · cases h
  |.nils,_,_,h,k=>by cases h;exact k
  |.sle,_,_,h,k=>by cases h;exact k
  |.map b,_,_,h,k=>by
    unfold unA at h;split at h
    · rename_i i hi;cases h;simp only[VR] at k ⊢;rw[Ir hn hi];exact k
    · cases h
  |.nilm,_,_,h,k=>by cases h;exact k
  |.fn f fi cap,_,_,h,k=>by
    unfold unA at h;split at h
    · rename_i x y hx hy;cases h
      simp only[VR] at k ⊢
      obtain⟨a,b,e1,e2,r⟩:=k;exact⟨a,b,VRl.push hn hx e1,VRl.push hn hy e2,r⟩
    · cases h
  |.nilf,_,_,h,k=>by cases h;exact k
  |.ifc t a,_,_,h,k=>by
    unfold unA at h;split at h
    · rename_i x hx;cases h
      simp only[VR] at k ⊢
      obtain⟨u,e,r⟩:=k;exact⟨u,VR.push hn hx e,r⟩
    · cases h
  |.nili,_,_,h,k=>by cases h;exact k
  |.agg l,_,_,h,k=>by
    unfold unA at h;split at h
    · rename_i x hx;cases h
      simp only[VR] at k ⊢
      obtain⟨u,e,r⟩:=k;exact⟨u,VRl.push hn hx e,r⟩
    · cases h
  |.tup l,_,_,h,k=>by
    unfold unA at h;split at h
    · rename_i x hx;cases h
      simp only[VR] at k ⊢
      obtain⟨u,e,r⟩:=k;exact⟨u,VRl.push hn hx e,r⟩
    · cases h
  |.raw _,_,_,h,k=>by cases h;exact k
  |.row _ _ _,_,_,h,k=>by cases h;simp only[VR] at k ⊢;exact k
  |.fp _,_,_,h,k=>by cases h;simp only[VR] at k ⊢;exact k
  |.own b,_,_,h,k=>by
    unfold unA at h;split at h
    · rename_i i hi;cases h;simp only[VR] at k ⊢;rw[Nj hn hi];exact k
    · cases h
  |.op b _,_,_,h,k=>by
    unfold unA at h;split at h
    · rename_i i hi;cases h;simp only[VR] at k ⊢;rw[Nj hn hi];exact k
    · cases h
  |.smap _ _,_,_,h,k=>by cases h;simp only[VR] at k ⊢;exact k
  |.clo _,_,_,h,k=>by cases h;simp only[VR] at k ⊢;exact k
  |.cond q a,_,_,h,k=>by
    unfold unA at h;split at h
    · rename_i x hx;cases h
      simp only[VR] at k ⊢
      exact⟨fun q=>VR.push hn hx (k.1 q),fun e=>k.2 ((Q5y hx).symm.trans e)⟩
    · cases h
theorem VRl.push {ks:List Nat} (hn:F5 ks=true) {φ φ':Phi}:∀{l l':List AV} {vs:List Value},unL ks l=some l'→VRl φ' l vs→VRl (φ.push φ' ks) l' vs
  |[],_,_,h,k=>by cases h;rw[k.nil_inv];exact .nil
  |a::l,_,_,h,k=>by
    unfold unL at h;split at h
    · rename_i x y hx hy;cases h
      obtain⟨v,vs',rfl,h1,h2⟩:=k.cons_inv
      exact .cons (VR.push hn hx h1) (VRl.push hn hy h2)
    · cases h
end
mutual
noncomputable def Gk (ks:List Nat):AV→Bool
  |.own b=>match idx b ks with|some _=>false|none=>true
  |.op b _=>match idx b ks with|some _=>false|none=>true
  |.fn _ first cap=>nookl ks first&&nookl ks cap
  |.ifc _ a=>Gk ks a
  |.agg l=>nookl ks l
  |.tup l=>nookl ks l
  |.cond _ a=>Gk ks a
  |_=>true
noncomputable def nookl (ks:List Nat):List AV→Bool
  |[]=>true
  |a::l=>Gk ks a&&nookl ks l
end
structure Stay (φ φ':Phi) (ks:List Nat):Prop where
  m:∀b x,φ b=some x→φ' b=some x
  s:∀b,idx b ks=none→φ'.s b=φ.s b
  f:∀k o,φ.f k=some o→φ'.f k=some o
mutual
theorem VR.stay {n:List Nat}:∀{a:AV} {φ φ':Phi} {v:Value},Stay φ φ' n→VR φ a v→Gk n a=true→VR φ' a v
  |.bool _,_,_,_,_,k,_=>k
  |.int _ _,_,_,_,_,k,_=>k
  |.str _,_,_,_,_,k,_=>k
  |.ptr _ _,_,_,_,t,k,h=>by simp only[VR] at k ⊢;obtain⟨x,κ,e,r⟩:=k;exact⟨x,κ,t.m _ _ e,r⟩
  |.nilp,_,_,_,_,k,_=>k
  |.sl _ _ _ _ _,_,_,_,t,k,h=>by simp only[VR] at k ⊢;obtain⟨x,κ,e,r⟩:=k;exact⟨x,κ,t.m _ _ e,r⟩
  |.nils,_,_,_,_,k,_=>k
  |.sle,_,_,_,_,k,_=>k
  |.map _,_,_,_,t,k,h=>by simp only[VR] at k ⊢;obtain⟨x,κ,e,r⟩:=k;exact⟨x,κ,t.m _ _ e,r⟩
  |.nilm,_,_,_,_,k,_=>k
  |.fn _ _ _,_,_,_,t,k,h=>by
    simp only[VR] at k ⊢
    simp only[Gk,Bool.and_eq_true] at h
    obtain⟨a,b,e1,e2,r⟩:=k;exact⟨a,b,VRl.stay t e1 h.1,VRl.stay t e2 h.2,r⟩
  |.nilf,_,_,_,_,k,_=>k
  |.ifc _ _,_,_,_,t,k,h=>by
    simp only[VR] at k ⊢
    simp only[Gk] at h
    obtain⟨u,e,r⟩:=k;exact⟨u,VR.stay t e h,r⟩
  |.nili,_,_,_,_,k,_=>k
  |.agg _,_,_,_,t,k,h=>by
    simp only[VR] at k ⊢
    simp only[Gk] at h
    obtain⟨u,e,r⟩:=k;exact⟨u,VRl.stay t e h,r⟩
  |.tup _,_,_,_,t,k,h=>by
    simp only[VR] at k ⊢
    simp only[Gk] at h
    obtain⟨u,e,r⟩:=k;exact⟨u,VRl.stay t e h,r⟩
  |.raw _,_,_,_,_,k,_=>k
  |.row _ _ _,_,_,_,t,k,_=>by
    simp only[VR] at k ⊢
    obtain⟨u,k1,k2⟩:=k
    exact⟨u,fun i hi=>(k1 i hi).mono (D8 t.f),by
      rcases k2 with k2|⟨b,o,c,rfl,k0,k2⟩
      · exact .inl k2
      · exact .inr ⟨b,o,c,rfl,k0,fun i hi=>⟨(k2 i hi).1,by obtain⟨cs,e,fr,q1,q2⟩:=(k2 i hi).2;exact⟨cs,e,fr,t.f _ _ q1,q2⟩⟩⟩⟩
  |.fp _,_,_,_,t,k,_=>by
    simp only[VR] at k ⊢
    obtain⟨b,o,u,e,k1,cs,e',fr,q1,q2⟩:=k
    exact⟨b,o,u,e,k1.mono (D8 t.f),cs,e',fr,t.f _ _ q1,q2⟩
  |.own c,_,_,_,t,k,h=>by
    simp only[VR] at k ⊢
    simp only[Gk] at h
    rw [t.s c (by cases hq : idx c n with
                  |none=>rfl
                  |some _=>rw[hq] at h;cases h)];exact k
  |.op c _,_,_,_,t,k,h=>by
    simp only[VR] at k ⊢
    simp only[Gk] at h
    rw [t.s c (by cases hq : idx c n with
                  |none=>rfl
                  |some _=>rw[hq] at h;cases h)];exact k
  |.clo _,_,_,_,t,k,_=>by
    simp only[VR] at k ⊢
    exact⟨k.1.mono (D8 t.f),k.2⟩
  |.smap _ _,_,_,_,t,k,_=>by
    simp only[VR] at k ⊢
    obtain⟨x,es,clk,m,e,e1,e2,e3⟩:=k
    exact⟨x,es,clk,m,e,t.f _ _ e1,e2,fun s=>⟨fun u hu=>((e3 s).1 u hu).mono (D8 t.f),fun hu=>((e3 s).2 hu).mono (D8 t.f)⟩⟩
  |.cond _ _,_,_,_,t,k,h=>by
    simp only[VR] at k ⊢
    simp only[Gk] at h
    exact⟨fun q=>VR.stay t (k.1 q) h,k.2⟩
theorem VRl.stay {n:List Nat}:∀{l:List AV} {φ φ':Phi} {vs:List Value},Stay φ φ' n→VRl φ l vs→nookl n l=true→VRl φ' l vs
  |[],_,_,_,_,k,_=>by rw[k.nil_inv];exact .nil
  |_::_,_,_,_,t,k,h=>by
    simp only[VRl] at k ⊢
    simp only[nookl,Bool.and_eq_true] at h
    obtain⟨v,vs',e,e1,e2⟩:=k;exact⟨v,vs',e,VR.stay t e1 h.1,VRl.stay t e2 h.2⟩
end
noncomputable def M6 (ks:List Nat) (a:AV):AV:=bif Gk ks a then a else Bp
theorem Wl {ks:List Nat} {a:AV} {φ φ':Phi} {v:Value} (t:Stay φ φ' ks) (k:VR φ a v):VR φ' (M6 ks a) v:=by
  unfold M6
  cases h:Gk ks a with
  |true=>exact VR.stay t k h
  |false=>exact Tn
theorem Wk {ks:List Nat} {φ φ':Phi} (t:Stay φ φ' ks):∀{l:List AV} {vs:List Value},VRl φ l vs→VRl φ' (l.map (M6 ks)) vs
  |[],_,k=>by rw[k.nil_inv];exact .nil
  |a::l,_,k=>by
    obtain⟨v,vs',rfl,h1,h2⟩:=k.cons_inv
    exact .cons (Wl t h1) (Wk t h2)
noncomputable def O1 (ks:List Nat):AO→AO
  |.row c e => .row (c.map (M6 ks)) e
  |o=>o
noncomputable def unO (ks:List Nat):AO→Option AO
  |.row c e=>match unL ks c with|some x=>some (.row x e)|none=>none
  |o=>some o
noncomputable def Kq (ks:List Nat) (h':AH):AH→Option AH
  |[]=>some []
  |(b,o)::r=>match Kq ks h' r with
    |some r'=>match idx b ks with
      |some i=>match Bh i h' with
        |some o'=>match unO ks o' with
          |some o''=>some ((b,o'')::r')
          |none=>none
        |none=>some r'
      |none=>some ((b,O1 ks o)::r')
    |none=>none
theorem Ko {ks:List Nat} {h':AH}:∀{h r:AH},Kq ks h' h=some r→∀b o,Bh b r=some o→(idx b ks=none∧∃o0,Bh b h=some o0∧o=O1 ks o0)∨∃i o',idx b ks=some i∧Bh i h'=some o'∧unO ks o'=some o
  |[],_,e,b,o,k=>by cases e;cases k
  |(c,x)::h,r,e,b,o,k=>by
    unfold Kq at e
    split at e
    · rename_i r' hr
      split at e
      · rename_i i hi
        split at e
        · rename_i o' ho'
          split at e
          · rename_i o'' hu
            cases e
            simp only[Bh] at k
            rcases Du c b with⟨q,q'⟩|⟨q,q'⟩<;>rw[q] at k
            · cases k;subst q';exact .inr ⟨i,o',hi,ho',hu⟩
            · rcases Ko hr b o k with⟨g1,o0,g2,g3⟩|g
              · exact .inl ⟨g1,o0,by simp only[Bh,q,cond_false];exact g2,g3⟩
              · exact .inr g
          · cases e
        · cases e
          rcases Ko hr b o k with⟨g1,o0,g2,g3⟩|g
          · refine .inl ⟨g1,o0,?_,g3⟩
            simp only[Bh]
            rw[Hp (by rintro rfl;rw[hi] at g1;cases g1)];exact g2
          · exact .inr g
      · rename_i hi
        cases e
        simp only[Bh] at k
        rcases Du c b with⟨q,q'⟩|⟨q,q'⟩<;>rw[q] at k
        · cases k;subst q';exact .inl ⟨hi,x,by simp[Bh],rfl⟩
        · rcases Ko hr b o k with⟨g1,o0,g2,g3⟩|g
          · exact .inl ⟨g1,o0,by simp only[Bh,q,cond_false];exact g2,g3⟩
          · exact .inr g
    · cases e
theorem Nz {φ φ':Phi} {ks:List Nat} (hn:F5 ks=true) {b i:Nat} (h:idx b ks=some i) {o o':AO} (ho:unO ks o=some o'):img (φ.push φ' ks) b o'=img φ' i o:=by
  funext k
  have hi:=Jr h
  cases o<;>simp only[unO] at ho
  case row c e =>
    split at ho
    · cases ho;simp only[img,Ir hn hi]
    · cases ho
  all_goals (cases ho;simp only[img,Ir hn hi,Nj hn hi])
theorem Xs {φ φ':Phi} {ks:List Nat} (hm:∀b x,φ.pull ks b=some x→φ' b=some x) (hf:∀b o,φ.f b=some o→φ'.f b=some o):Stay φ (φ.push φ' ks) ks:=by
  refine⟨fun b x e=>?_,fun b e=>by simp[Phi.push,e],hf⟩
  show(match idx b ks with|some i=>φ' i|none=>φ b)=some x
  cases hi:idx b ks with
  |none=>exact e
  |some i=>exact hm i x (by rw[H2 hi];exact e)
theorem Rel.push {B : Bas} {φ φ' : Phi} {h H H' h2 : AH} {w w' : World} {ks : List Nat} (r : Rel B φ h w) (hn : F5 ks = true) (hs : Jf ks h 0 ks = some H) (r' : Rel (Gu (φ.pull ks) H w) φ' H' w')
    (hm:∀b x,φ.pull ks b=some x→φ' b=some x) (hf:∀b o,φ.f b=some o→φ'.f b=some o) (hfn:∀b o,φ'.f b=some o→φ.f b=some o∨¬(Gu (φ.pull ks) H w).old b) (k:Kq ks H' h=some h2):Rel B (φ.push φ' ks) h2 w':=by
  have st:=Xs (φ:=φ) (φ':=φ') (ks:=ks) hm hf
  have gH:∀i o,Bh i H=some o→∃b o0,idx b ks=some i∧Bh b h=some o0∧Kg ks o0=some o:=by
    intro i o e
    obtain⟨_,b,o0,g1,g2,g3⟩:=O2 hs i o e
    exact⟨b,o0,N0 hn (by simpa using g1),g2,g3⟩
  have oth:∀b o q,idx b ks=none→Bh b h=some o→img φ b o q→(Gu (φ.pull ks) H w).old q:=by
    intro b o q hb e i
    refine⟨(r.gf b o q e i).2.1,fun j o' e' i'=>?_⟩
    obtain⟨b',o0,g1,g2,g3⟩:=gH j o' e'
    rw[L7 g1 g3] at i'
    have:=r.sep b b' o o0 q e g2 i i'
    subst this;rw[hb] at g1;cases g1
  have himg:∀b o,idx b ks=none→img (φ.push φ' ks) b (O1 ks o)=img φ b o:=by
    intro b o hb
    have h1:(φ.push φ' ks) b=φ b:=by simp[Phi.push,hb]
    have h2:(φ.push φ' ks).s b=φ.s b:=by simp[Phi.push,hb]
    funext k
    cases o<;>simp only[O1,img,h1,h2]
  have notold:∀k,¬(Gu (φ.pull ks) H w).old k→¬B.old k:=by
    intro k hk hB
    refine hk ⟨r.below.lt hB,fun i o e i'=>?_⟩
    obtain⟨b',o0,g1,g2,g3⟩:=gH i o e
    rw[L7 g1 g3] at i'
    exact(r.gf b' o0 k g2 i').1 hB
  refine⟨r.below.to r'.below.os r'.below.tape r'.below.output r'.below.size fun j hj=>?_,r'.fro,fun b o e=>?_,fun b b' o o' q e e' i i'=>?_,fun b o q e i=>?_⟩
  · refine r'.below.block j ?_
    by_cases h:(Gu (φ.pull ks) H w).old j
    · exact h
    · exact absurd hj (notold j h)
  · rcases Ko k b o e with⟨g1,o0,g2,rfl⟩|⟨i,o',g1,g2,g3⟩
    · have ha:=r.obj b o0 g2
      have hsame:∀q,img φ b o0 q→w'.heap[q]? = w.heap[q]? := fun q hq=>r'.below.block q (oth b o0 q g1 g2 hq)
      have h1:(φ.push φ' ks) b=φ b:=by simp[Phi.push,g1]
      have h2:(φ.push φ' ks).s b=φ.s b:=by simp[Phi.push,g1]
      cases o0 with
      |row c e'=>obtain⟨x,κ,vs,a1,a2,a3⟩:=ha;exact⟨x,κ,vs,by rw[h1];exact a1,(hsame x (by simp[img,a1])).trans a2,Wk st a3⟩
      |grow es e' sz=>obtain⟨v,us,a1,a2,a3,a4⟩:=ha;exact⟨v,us,by rw[h2];exact a1,Lw a2 (fun j hj=>hsame j (by simp[img,a1,hj])),a3.mono (D8 hf),a4⟩
      |map es clk=>obtain⟨x,κ,l,a1,a2,a3⟩:=ha;exact⟨x,κ,l,by rw[h1];exact a1,(hsame x (by simp[img,a1])).trans a2,a3.mono (D8 hf)⟩
      |siter s p=>obtain⟨x,κ,a1,a2⟩:=ha;exact⟨x,κ,by rw[h1];exact a1,(hsame x (by simp[img,a1])).trans a2⟩
      |mm g ho e' sz=>exact(show At B φ w b (.mm g ho e' sz) from ha).imp (φ':=φ.push φ' ks) ⟨h1,h2,hf⟩ hsame
    · have ha:=r'.obj i o' g2
      have hi:=Jr g1
      cases o'<;>simp only[unO] at g3
      case row c e' =>
        split at g3
        · rename_i x hx;cases g3
          obtain⟨y,κ,vs,a1,a2,a3⟩:=ha
          exact⟨y,κ,vs,by rw[Ir hn hi];exact a1,a2,a3.push hn hx⟩
        · cases g3
      case grow es e' sz=>cases g3;obtain⟨v,vs,a1,a2⟩:=ha;exact⟨v,vs,by rw[Nj hn hi];exact a1,a2⟩
      case map es clk=>cases g3;obtain⟨x,κ,l,a1,a2⟩:=ha;exact⟨x,κ,l,by rw[Ir hn hi];exact a1,a2⟩
      case siter s p=>cases g3;obtain⟨x,κ,a1,a2⟩:=ha;exact⟨x,κ,by rw[Ir hn hi];exact a1,a2⟩
      case mm g ho e' sz=>cases g3;obtain⟨x,κ,es,clk,m,a1,a2,a3,a4,a5,a6⟩:=ha;exact⟨x,κ,es,clk,m,by rw[Ir hn hi];exact a1,a2,a3,a4,by rw[Nj hn hi];exact a5,a6⟩
  · rcases Ko k b o e with⟨g1,o0,g2,rfl⟩|⟨j,p,g1,g2,g3⟩<;>rcases Ko k b' o' e' with⟨g1',o0',g2',rfl⟩|⟨j',p',g1',g2',g3'⟩
    · rw[himg b o0 g1] at i;rw[himg b' o0' g1'] at i'
      exact r.sep b b' o0 o0' q g2 g2' i i'
    · rw[himg b o0 g1] at i;rw[Nz hn g1' g3'] at i'
      exact absurd (oth b o0 q g1 g2 i) (r'.gf j' p' q g2' i').1
    · rw[Nz hn g1 g3] at i;rw[himg b' o0' g1'] at i'
      exact absurd (oth b' o0' q g1' g2' i') (r'.gf j p q g2 i).1
    · rw[Nz hn g1 g3] at i;rw[Nz hn g1' g3'] at i'
      have:=r'.sep j j' p p' q g2 g2' i i'
      subst this
      have a:=Jr g1;have a':=Jr g1'
      rw[a] at a';exact Option.some.inj a'
  · rcases Ko k b o e with⟨g1,o0,g2,rfl⟩|⟨j,p,g1,g2,g3⟩
    · rw[himg b o0 g1] at i
      have hg:=r.gf b o0 q g2 i
      have ho:=oth b o0 q g1 g2 i
      refine⟨hg.1,Nat.lt_of_lt_of_le hg.2.1 r'.below.size,?_⟩
      show φ'.f q=none
      cases hx:φ'.f q with
      |none=>rfl
      |some z =>
        rcases hfn q z hx with h|h
        · rw[hg.2.2] at h;cases h
        · exact absurd ho h
    · rw[Nz hn g1 g3] at i
      have hg:=r'.gf j p q g2 i
      exact⟨notold q hg.1,hg.2⟩
noncomputable def M5 (ks:List Nat):Fr→Fr:=Hi (M6 ks)
theorem FRel.stay {φ φ':Phi} {ks:List Nat} {n:Nat} {s:Fr} {σ:Nat→Value} (r:FRel φ n s σ) (t:Stay φ φ' ks):FRel φ' n (M5 ks s) σ:=by
  intro u a h
  simp only[M5,Nv] at h
  obtain⟨a0,h1,rfl⟩:=Option.map_eq_some_iff.1 h
  exact Wl t (r u a0 h1)
noncomputable def Mp (m:Nat):List Nat→Bool
  |[]=>true
  |b::r=>Nat.blt b m&&Mp m r
theorem Q3y {m:Nat}:∀{ks:List Nat},Mp m ks=true→∀{b i:Nat},idx b ks=some i→b < m
  |[],_,_,_,h=>by cases h
  |x::r,h,b,i,k=>by
    simp only[Mp,Bool.and_eq_true] at h
    unfold idx at k
    rcases Du x b with⟨e,q⟩|⟨e,q⟩<;>rw[e] at k
    · subst q;simpa [Nat.blt_eq] using h.1
    · rw[cond_false] at k
      split at k
      · rename_i j hj;exact Q3y h.2 hj
      · cases k
section
variable {P : Program} {B : Bas} {w : World} {F : Cx} {n : Nat} {φ : Phi} {σ : Nat → Value} {K : Exit → St → Prop} {x : St} {ops : Array Oper}
theorem Holds.callS {φ' : Phi} {w' : World} {ks : List Nat} {H H' h2 : AH} {r r' : AV} {v : Value} {dst : Option Nat} {s' : Fr} (hx : Holds B F n x φ σ w) (hn : F5 ks = true) (hb : Mp x.nx ks = true) (hs : Jf ks x.h 0 ks = some H) (hk : Kq ks H' x.h = some h2)
    (q1:Rel (Gu (φ.pull ks) H w) φ' H' w') (q2:VR φ' r v) (q3:∀b y,b < ks.length→φ.pull ks b=some y→φ' b=some y) (q4:∀b o,φ.f b=some o→φ'.f b=some o) (q5:∀b o,φ'.f b=some o→φ.f b=some o∨¬(Gu (φ.pull ks) H w).old b)
    (hr:unA ks r=some r') (hp:B6 n dst r' (M5 ks x.s)=some s'):Holds B F n ⟨s',h2,x.nx⟩ (φ.push φ' ks) (Ci σ dst v) w':=by
  have hm:∀b y,φ.pull ks b=some y→φ' b=some y:=by
    intro b y e
    refine q3 b y ?_ e
    by_cases hl:b < ks.length
    · exact hl
    · have:ks[b]? = none:=by simp;omega
      simp[Phi.pull,this] at e
  have st:=Xs (φ:=φ) (φ':=φ') (ks:=ks) hm q4
  refine⟨(hx.fr.stay st).put hp (q2.push hn hr),hx.rel.push hn hs q1 hm q4 q5 hk,fun b hb'=>?_,fun b o e=>q4 _ _ (hx.old b o e),fun b o e=>?_,fun b y e=>st.m _ _ (hx.base b y e)⟩
  · have : idx b ks = none := by
      cases hi:idx b ks with
      |none=>rfl
      |some i=>have:=Q3y hb hi;have h':x.nx≤b:=hb';omega
    have hd:=hx.dom b hb'
    exact⟨by simp only[Phi.push,this];exact hd.1,by simp only[Phi.push,this];exact hd.2⟩
  · rcases q5 b o e with h|h
    · exact hx.new b o h
    · refine .inr fun hB=>h ⟨hx.rel.below.lt hB,fun i o' e' i'=>?_⟩
      obtain⟨_,b',o0,g1,g2,g3⟩:=O2 hs i o' e'
      rw[L7 (N0 hn (by simpa using g1)) g3] at i'
      exact(hx.rel.gf b' o0 b g2 i').1 hB
theorem Mx {rest : List Oper} {f : FuncId} {ar : Array Operand} {ts : Array TypeId} {ty : TypeId} {ps : String} {dst : Option Tmp} {af : Array Edge} {g : Option (Nat × Bool)} {al al' : List AV} {r r' : AV} {s' : Fr} {H H' h2 : AH} (ks : List Nat)
    (hg:Dh ops x.s g=true) (he:Au P f) (ha:Ea (evA x.s) ar.toList=some al) (hra:renL ks al=some al') (hn:F5 ks=true) (hb:Mp x.nx ks=true) (hs:Jf ks x.h 0 ks=some H) (hf:Gf P f al' H ks.length r H')
    (hk:Kq ks H' x.h=some h2) (hr:unA ks r=some r') (hp:B6 n dst r' (M5 ks x.s)=some s') (next:SO P n ops rest B F K ⟨s',h2,x.nx⟩):SO P n ops (⟨dst,.call { callee:=.value (.func f),args:=ar,argTypes:=ts },ty,ps,af,g⟩::rest) B F K x:=by
  intro φ σ w hx
  have hv:=(Fq hx.fr.ev ha).pull hra
  refine Gc (Df hx.fr hg) he (hf B (φ.pull ks) w _ (hx.rel.pull hn hs) hv) ?_
  rintro v w' ⟨φ',q1,q2,q3,q4,q5⟩
  exact next _ _ _ (hx.callS hn hb hs hk q1 q2 q3 q4 q5 hr hp)
theorem Ht {rest : List Oper} {t : Nat} {f : FuncId} {cap : List AV} {ar : Array Operand} {ts : Array TypeId} {ty : TypeId} {ps : String} {dst : Option Tmp} {af : Array Edge} {g : Option (Nat × Bool)} {al al' : List AV} {r r' : AV} {s' : Fr} {H H' h2 : AH} (ks : List Nat)
    (hg:Dh ops x.s g=true) (hc:Cl t x.s=some (.fn f [] cap)) (he:Au P f) (ha:Ea (evA x.s) ar.toList=some al) (hra:renL ks (al++cap)=some al') (hn:F5 ks=true) (hb:Mp x.nx ks=true) (hs:Jf ks x.h 0 ks=some H) (hf:Gf P f al' H ks.length r H')
    (hk:Kq ks H' x.h=some h2) (hr:unA ks r=some r') (hp:B6 n dst r' (M5 ks x.s)=some s') (next:SO P n ops rest B F K ⟨s',h2,x.nx⟩):SO P n ops (⟨dst,.call { callee:=.value (.tmp t),args:=ar,argTypes:=ts },ty,ps,af,g⟩::rest) B F K x:=by
  intro φ σ w hx
  have hfn:=hx.fr _ _ hc
  simp only[VR] at hfn
  obtain⟨vf,vc,h1,h2',h3⟩:=hfn
  have:=h1.nil_inv;subst this
  have hv:=((Fq hx.fr.ev ha).append h2').pull hra
  refine Oo (x:=.tmp t) (cap:=vc.toArray) (Df hx.fr hg) h3 he (hf B (φ.pull ks) w (List.map (ev n σ) ar.toList++vc) (hx.rel.pull hn hs) hv) ?_
  rintro v w' ⟨φ',q1,q2,q3,q4,q5⟩
  exact next _ _ _ (hx.callS hn hb hs hk q1 q2 q3 q4 q5 hr hp)
end
end Sv
end
section
open Go Go.RowKit
namespace Sv
noncomputable def M7 (P:Program) (t:Nat) (x:St):Option St:=match Cl t x.s with
  |some a=>match Di P x.h a with
    |some (r,h)=>some ⟨Fh t r x.s,h,x.nx⟩
    |none=>none
  |none=>none
section
variable {P : Program} {B : Bas} {w : World} {F F0 : Cx} {n : Nat} {φ : Phi} {σ : Nat → Value} {K : Exit → St → Prop} {x y : St} {ops : Array Oper}
theorem Holds.still {t:Nat} (h:Holds B F n x φ σ w) (k:M7 P t x=some y):∃φ',Holds B F n y φ' σ w:=by
  unfold M7 at k
  split at k
  · rename_i a ha
    split at k
    · rename_i r hh hr
      cases k
      obtain⟨F',f1,f2,f3,f4⟩:=Ty hr B φ w _ h.rel (VRl.single (h.fr _ _ ha))
      obtain⟨v,hv,f5⟩:=f4.single_inv
      cases hv
      refine⟨⟨φ.m,φ.s,F'⟩,fun u c e=>?_,f3,h.dom,fun b o e=>f1 _ _ (h.old b o e),fun b o e=>(f2 b o e).elim (h.new b o) .inr,h.base⟩
      by_cases hu:u=t
      · subst hu;rw[Nt] at e;cases e;exact f5.mono (Phi.le_fz ⟨φ.m,φ.s,F'⟩)
      · rw[Nu _ hu] at e;exact(h.fr u c e).mono (leF f1)
    · cases k
  · cases k
theorem Re {c:Code} (t:Nat) (k:M7 P t x=some y) (h:SW P n c B F K y):SW P n c B F K x:=fun φ σ w hx=>by
  obtain⟨φ',hh⟩:=hx.still k
  exact h _ _ _ hh
theorem Vs {l:List Oper} (t:Nat) (k:M7 P t x=some y) (h:SO P n ops l B F K y):SO P n ops l B F K x:=fun φ σ w hx=>by
  obtain⟨φ',hh⟩:=hx.still k
  exact h _ _ _ hh
end
theorem Imp.list {α:Type} [Inhabited α] {sz:Nat} {f:α→AV} {l:List α} {n:Nat} (hn:n=l.length):Imp (.row sz n (fun i=>(l.map f).getD i Bp)) (Ac sz f l):=by
  subst hn
  refine Imp.row fun i hi=>Imp.of_eq ?_
  simp only[List.getD_eq_getElem?_getD,List.getElem?_map,nth,List.getElem?_eq_getElem hi,Option.map_some,Option.getD_some]
theorem Imp.refl {a:AV}:Imp a a:=fun _ _ k=>k
theorem Imp.trans {a b c:AV} (h:Imp a b) (k:Imp b c):Imp a c:=fun φ v q=>k φ v (h φ v q)
end Sv
end
section
open Go Go.RowKit
namespace Sv
section
variable {P : Program} {n : Nat} {ops : Array Oper} {Q : (Nat → Value) → World → Prop} {fuel : Nat} {listed : Array Bool} {H : World → Prop} {σ : Nat → Value} {w : World}
def Next (P:Program) (n:Nat) (ops:Array Oper) (Q:(Nat→Value)→World→Prop) (H:World→Prop) (fuel:Nat) (listed:Array Bool) (i:Nat) (σ:Nat→Value) (w:World):Prop :=
  ∃o,ops[i]? = some o∧WO P n ops [o] (fun e σ' w'=>e = .normal∧H w'∧WG P n ops Q H fuel (listed.setIfInBounds i true) σ' w') σ w
theorem Rd {l:List Nat} (hr:Region.ready .any ops listed=l) (hl:l≠[]) (h:∀i∈l,Next P n ops Q H fuel listed i σ w):WG P n ops Q H (fuel+1) listed σ w:=by
  unfold WG
  refine wpAnyH_all hr hl fun j hj=>?_
  obtain⟨o,hi,h⟩:=h j hj
  unfold WO wpList at h
  unfold wpOp
  simp only[hi]
  have ho:¬LetsOut (F8 n fun e σ' w'=>e = .normal∧H w'∧WG P n ops Q H fuel (listed.setIfInBounds j true) σ' w'):=by
    rintro⟨a,w,σ',_,h,_⟩;cases h
  have hk : ∀ a w', wpList P ops (F8 n fun e σ' w' => e = .normal ∧ H w' ∧ WG P n ops Q H fuel (listed.setIfInBounds j true) σ' w') [] a w' →
      (H w'∧wpAnyH P .any ops (fun e a w=>e = .normal∧∃σ,a=mk n σ∧Q σ w) H fuel (listed.setIfInBounds j true) a w'):=by
    rintro a w' ⟨σ',rfl,_,hb,hx⟩
    unfold WG at hx
    exact⟨hb,hx⟩
  split at h
  · rename_i hw
    rw[if_pos hw]
    rcases h with h|⟨_,h⟩
    · exact .inl (Rn hk (fun c a w hc=>by obtain⟨_,_,hc,_⟩:=hc;cases hc) ho h)
    · exact absurd h ho
  · rename_i hw
    rw[if_neg hw];exact hk _ _ h
end
def SN (P:Program) (n:Nat) (ops:Array Oper) (B:Bas) (F:Cx) (K:St→Prop) (F0:Cx) (E:Bool) (fuel:Nat) (listed:Array Bool) (i:Nat) (x:St):Prop :=
  ∀φ σ w,Holds B F0 n x φ σ w→(E=true→φ.f=F0.f)→Next P n ops (fun σ w=>∃y φ,Holds B F0 n y φ σ w∧K y) (Fro F0.f) fuel listed i σ w
section
variable {P : Program} {B : Bas} {w : World} {F F0 : Cx} {n : Nat} {φ : Phi} {σ : Nat → Value} {KK : St → Prop} {x : St} {E : Bool} {ops : Array Oper} {fuel : Nat} {listed : Array Bool}
theorem Cp (i j:Nat) (hr:Region.ready .any ops listed=[i,j]) (h1:SN P n ops B F KK F0 E fuel listed i x) (h2:SN P n ops B F KK F0 E fuel listed j x):SG P n ops B F KK F0 E (fuel+1) listed x:=by
  unfold SG
  intro φ σ w hx hE
  refine Rd hr (by simp) fun k hk=>?_
  rcases (by simpa using hk:k=i∨k=j) with rfl|rfl
  · exact h1 φ σ w hx hE
  · exact h2 φ σ w hx hE
theorem Ge (i j l:Nat) (hr:Region.ready .any ops listed=[i,j,l]) (h1:SN P n ops B F KK F0 E fuel listed i x) (h2:SN P n ops B F KK F0 E fuel listed j x) (h3:SN P n ops B F KK F0 E fuel listed l x):SG P n ops B F KK F0 E (fuel+1) listed x:=by
  unfold SG
  intro φ σ w hx hE
  refine Rd hr (by simp) fun k hk=>?_
  rcases (by simpa using hk:k=i∨k=j∨k=l) with rfl|rfl|rfl
  · exact h1 φ σ w hx hE
  · exact h2 φ σ w hx hE
  · exact h3 φ σ w hx hE
theorem Q46 (i : Nat) (lz : List Nat) {o : Oper} {y : St} {C : Option Prop} (hi : ops[i]? = some o) (h : Jh P n ops lz o x = some (y, C)) (hC : Bn C)
    (next:SG P n ops B F KK F0 E fuel (listed.setIfInBounds i true) y):SN P n ops B F KK F0 E fuel listed i x:=by
  intro φ σ w hx hE
  refine⟨o,hi,R2 hx h hC fun φ' σ' w' hh e=>C9 ⟨rfl,hh.hold,?_⟩⟩
  unfold SG at next
  exact next φ' σ' w' hh (fun q=>e.trans (hE q))
theorem X7s (i : Nat) {f : FuncId} {ar : Array Operand} {ts : Array TypeId} {ty : TypeId} {ps : String} {dst : Option Tmp} {af : Array Edge} {g : Option (Nat × Bool)} {al : List AV} {r : AV} {s' : Fr}
    (hi:ops[i]? = some ⟨dst,.call { callee:=.value (.func f),args:=ar,argTypes:=ts },ty,ps,af,g⟩)
    (hg:Dh ops x.s g=true) (he:Au P f) (ha:Ea (evA x.s) ar.toList=some al) (hz:frzl al=true) (hf:FnV P f al r) (hp:B6 n dst r x.s=some s')
    (next:SG P n ops B F KK F0 false fuel (listed.setIfInBounds i true) ⟨s',x.h,x.nx⟩):SN P n ops B F KK F0 E fuel listed i x:=by
  intro φ σ w hx hE
  refine⟨_,hi,?_⟩
  have hv:=(Fq hx.fr.ev ha).fz hz
  refine Gc (Df hx.fr hg) he (hf φ.f w _ hx.rel.fro hv) ?_
  rintro v w' ⟨hb,F',h1,h2,h3,h4⟩
  have hh:=hx.called hb h1 h2 h3
  have hh':Holds B F0 n ⟨s',x.h,x.nx⟩ ⟨φ.m,φ.s,F'⟩ (Ci σ dst v) w':=⟨hh.fr.put hp (h4.mono (Phi.le_fz ⟨φ.m,φ.s,F'⟩)),hh.rel,hh.dom,hh.old,hh.new,hh.base⟩
  unfold SG at next
  exact C9 ⟨rfl,hh'.hold,next _ _ _ hh' (fun q=>by cases q)⟩
theorem X7r (i : Nat) {f : FuncId} {ar : Array Operand} {ts : Array TypeId} {ty : TypeId} {ps : String} {dst : Option Tmp} {af : Array Edge} {g : Option (Nat × Bool)} {al : List AV} {r : AV} {s' : Fr} {q : Bool}
    (hi:ops[i]? = some ⟨dst,.call { callee:=.value (.func f),args:=ar,argTypes:=ts },ty,ps,af,g⟩)
    (hg:Hk ops x.s g=some q) (he:Au P f) (ha:Ea (Hu ar.toList (evA x.s)) ar.toList=some al) (hn:q=true→Bn (Em (evA x.s) ar.toList)) (hz:frzl al=true) (hf:q=true→FnV P f al r) (hp:B6 n dst (.cond q r) x.s=some s')
    (next:SG P n ops B F KK F0 false fuel (listed.setIfInBounds i true) ⟨s',x.h,x.nx⟩):SN P n ops B F KK F0 E fuel listed i x:=by
  intro φ σ w hx hE
  refine⟨_,hi,?_⟩
  unfold SG at next
  have hgk:=Ky hx.fr hg
  cases q with
  |false =>
    have hh':Holds B F0 n ⟨s',x.h,x.nx⟩ φ (Ci σ dst undef) w:=⟨hx.fr.put hp Jb,hx.rel,hx.dom,hx.old,hx.new,hx.base⟩
    exact Fd hgk (C9 ⟨rfl,hx.hold,next φ _ w hh' (fun q=>by cases q)⟩)
  |true =>
    have hv:=(Fq (Lj hx.fr (hn rfl)) ha).fz hz
    refine Gc hgk he (hf rfl φ.f w _ hx.rel.fro hv) ?_
    rintro v w' ⟨hb,F',h1,h2,h3,h4⟩
    have hh:=hx.called hb h1 h2 h3
    have hh':Holds B F0 n ⟨s',x.h,x.nx⟩ ⟨φ.m,φ.s,F'⟩ (Ci σ dst v) w':=⟨hh.fr.put hp (Lc (h4.mono (Phi.le_fz ⟨φ.m,φ.s,F'⟩))),hh.rel,hh.dom,hh.old,hh.new,hh.base⟩
    exact C9 ⟨rfl,hh'.hold,next _ _ _ hh' (fun q=>by cases q)⟩
theorem Gx (i:Nat) (hr:Region.ready .any ops listed=[i]) (h1:SN P n ops B F KK F0 E fuel listed i x):SG P n ops B F KK F0 E (fuel+1) listed x:=by
  unfold SG
  intro φ σ w hx hE
  refine Rd hr (by simp) fun k hk=>?_
  rcases (by simpa using hk:k=i) with rfl
  exact h1 φ σ w hx hE
end
theorem VRl.put {φ:Phi} {a:AV}:∀{l:List AV} {vs:List Value} {j:Nat} {v:Value},VRl φ l vs→vs[j]? = some v→VR φ a v→VRl φ (l.set j a) vs
  |[],vs,j,v,h,_,_=>by simpa using h
  |x::l,vs,0,v,h,hj,ha=>by
    obtain⟨u,vs',rfl,h1,h2⟩:=h.cons_inv
    simp only[List.getElem?_cons_zero,Option.some.injEq] at hj
    subst hj
    exact .cons ha h2
  |x::l,vs,j+1,v,h,hj,ha=>by
    obtain⟨u,vs',rfl,h1,h2⟩:=h.cons_inv
    exact .cons h1 (VRl.put h2 (by simpa using hj) ha)
noncomputable def thawC (e sz b j:Nat) (x:St):Option St:=match Bh b x.h with
  |some (.row cs e')=>match cs[j]? with
    |some .nils=>some ⟨x.s,Ch b (.row (cs.set j (.own x.nx)) e') (Ch x.nx (.grow [] e sz) x.h),x.nx+1⟩
    |_=>none
  |_=>none
section
variable {P : Program} {B : Bas} {w : World} {F F0 : Cx} {n : Nat} {φ : Phi} {σ : Nat → Value} {K : Exit → St → Prop} {x y : St} {ops : Array Oper}
theorem Holds.thawC {e sz b j:Nat} (h:Holds B F n x φ σ w) (hsz:Nat.blt 0 sz=true) (k:thawC e sz b j x=some y):∃φ',Holds B F n y φ' σ w:=by
  unfold Sv.thawC at k
  split at k
  · rename_i cs e' hb
    split at k
    · rename_i hj
      cases k
      obtain⟨x0,κ,vs,a1,a2,a3⟩:=h.rel.obj b _ hb
      obtain⟨v,hvj,hv⟩:=a3.get hj
      obtain⟨φ1,hle,r1,d1,hs1,hf1⟩:=Ru (e:=e) (sz:=sz) (a:=.nils) (h:=x.h) (nx:=x.nx) rfl (by simpa [Nat.blt_eq] using hsz) hv h.rel h.dom
      have hne:b≠x.nx:=by
        rintro rfl
        rw[(h.dom _ (Nat.le_refl _)).1] at a1;cases a1
      have hb1:Bh b (Ch x.nx (.grow [] e sz) x.h)=some (.row cs e'):=by rw[G5 _ hne];exact hb
      refine⟨φ1,fun u c q=>(h.fr u c q).mono hle,?_,d1,fun b o q=>by rw[hf1];exact h.old b o q,fun b o q=>by rw[hf1] at q;exact h.new b o q,fun b o q=>hle.m _ _ (h.base b o q)⟩
      refine r1.add (b:=b) (o:=.row (cs.set j (.own x.nx)) e') ⟨x0,κ,vs,hle.m _ _ a1,a2,(a3.mono hle).put hvj ?_⟩ ?_
      · simp only[VR];exact⟨hs1,hv.slice rfl⟩
      · intro q hq
        have hq':img φ1 b (.row cs e') q:=hq
        obtain⟨g1,g2,g3⟩:=r1.gf b _ q hb1 hq'
        exact⟨g1,g2,g3,fun c o' hc hg hi=>hc (r1.sep c b o' _ q hg hb1 hi hq')⟩
    · cases k
  · cases k
theorem Mt {c:Code} (e sz b j:Nat) (hsz:Nat.blt 0 sz=true) (k:thawC e sz b j x=some y) (h:SW P n c B F K y):SW P n c B F K x:=by
  unfold SW at h ⊢
  intro φ σ w hx
  obtain⟨φ',hh⟩:=hx.thawC hsz k
  exact h _ _ _ hh
end
section
variable {P : Program} {B : Bas} {w : World} {F F0 : Cx} {n : Nat} {φ : Phi} {σ : Nat → Value} {K : Exit → St → Prop} {x y : St} {ops : Array Oper}
end
theorem Imp.nil {α:Type} [Inhabited α] {sz:Nat} {f:α→AV}:Imp .nils (Ac sz f []):=by
  intro F v k
  simp only[VR] at k;subst k
  unfold Ac
  simp only[VR]
  exact⟨fun _=>undef,fun i hi=>absurd hi (by simp),.inl ⟨rfl,.inl rfl⟩⟩
theorem FnV.of_args {P:Program} {f:Nat} {al bl:List AV} {r:AV} (h:FnV P f al r) (k:∀φ vs,VRl φ bl vs→VRl φ al vs):FnV P f bl r:=fun F w vs h1 h2=>h F w vs h1 (k _ _ h2)
theorem ImpL.cons {a b:AV} {l m:List AV} (h:Imp a b) (k:∀φ vs,VRl φ l vs→VRl φ m vs):∀φ vs,VRl φ (a::l) vs→VRl φ (b::m) vs:=by
  intro F vs q
  obtain⟨v,vs',rfl,q1,q2⟩:=q.cons_inv
  exact .cons (h F v q1) (k F vs' q2)
theorem ImpL.nil:∀φ vs,VRl φ [] vs→VRl φ [] vs:=fun _ _ h=>h
end Sv
end
section
open Go Go.RowKit
namespace Sv
section
variable {P : Program} {B : Bas} {w : World} {F F0 : Cx} {n : Nat} {φ : Phi} {σ : Nat → Value} {K : Exit → St → Prop} {x y : St} {ops : Array Oper}
theorem Ot {rest : List Oper} {dst : Option Tmp} {op : Op} {ty : TypeId} {ps : String} {af : Array Edge} {g : Option (Nat × Bool)} {s' : Fr} (a : AV) (hg : Dh ops x.s g = true)
    (h:∀φ σ,FRel φ n x.s σ→∃v,(∀w,(execOp (ev n σ) ⟨dst,op,ty,ps,af,g⟩).run P w = .ok (.value v) w)∧VR φ a v) (hp:B6 n dst a x.s=some s') (next:SO P n ops rest B F K ⟨s',x.h,x.nx⟩):SO P n ops (⟨dst,op,ty,ps,af,g⟩::rest) B F K x:=by
  unfold SO at next ⊢
  intro φ σ w hx
  obtain⟨v,h1,h2⟩:=h φ σ hx.fr
  exact Db (Df hx.fr hg) (h1 w) (next φ _ w ⟨hx.fr.put hp h2,hx.rel,hx.dom,hx.old,hx.new,hx.base⟩)
theorem Q45 {rest : List Oper} {dst : Option Tmp} {op : Op} {ty : TypeId} {ps : String} {af : Array Edge} {g : Option (Nat × Bool)} {s' : Fr} {q : Bool} (a : AV) (hg : Hk ops x.s g = some q)
    (h:q=true→∀φ σ,FRel φ n x.s σ→∃v,(∀w,(execOp (ev n σ) ⟨dst,op,ty,ps,af,g⟩).run P w = .ok (.value v) w)∧VR φ a v) (hp:B6 n dst (.cond q a) x.s=some s') (next:SO P n ops rest B F K ⟨s',x.h,x.nx⟩):SO P n ops (⟨dst,op,ty,ps,af,g⟩::rest) B F K x:=by
  unfold SO at next ⊢
  intro φ σ w hx
  have hgk:=Ky hx.fr hg
  cases q with
  |false=>exact Fd hgk (next φ _ w ⟨hx.fr.put hp Jb,hx.rel,hx.dom,hx.old,hx.new,hx.base⟩)
  |true =>
    obtain⟨v,h1,h2⟩:=h rfl φ σ hx.fr
    exact Db hgk (h1 w) (next φ _ w ⟨hx.fr.put hp (Lc h2),hx.rel,hx.dom,hx.old,hx.new,hx.base⟩)
end
end Sv
end
section
open Go Go.RowKit
namespace Sv
section
variable {P : Program} {B : Bas} {w : World} {F F0 : Cx} {n : Nat} {φ : Phi} {σ : Nat → Value} {K : Exit → St → Prop} {x y : St} {ops : Array Oper}
noncomputable def eqS (P:Program) (l m:List AV):List Field→Option Bool
  |[]=>some true
  | f :: fs => bif decide (f.name = "_") then none else match P.underlying f.type, l[f.offset]?, m[f.offset]? with
    | some (.int _), some (.int k a), some (.int k' b) => bif kEq k k' then (match eqS P l m fs with
        |some r=>some (decide (a=b)&&r)
        |none=>none) else none
    | some .string, some (.str a), some (.str b) => (match eqS P l m fs with
        |some r=>some (decide (a=b)&&r)
        |none=>none)
    | some .bool, some (.bool a), some (.bool b) => (match eqS P l m fs with
        |some r=>some ((a == b)&&r)
        |none=>none)
    |_,_,_=>none
theorem X1i {t:TypeId} (w:World) (h:(∃k,P.underlying t=some (.int k))∨P.underlying t=some .string∨P.underlying t=some .bool):(isAgg t).run P w = .ok false w:=by
  rcases h with⟨k,h⟩|h|h<;>simp[isAgg,run_underlying h,go_sem]
theorem Lv {t:TypeId} {vs:List Value} {off:Nat} {v:Value} (w:World) (h:(∃k,P.underlying t=some (.int k))∨P.underlying t=some .string∨P.underlying t=some .bool) (hv:vs[off]? = some v):(part t vs.toArray off).run P w = .ok v w:=by
  simp[part,X1i w h,hv,go_sem]
theorem Ql {l m:List AV} {vs us:List Value} (hl:VRl φ l vs) (hm:VRl φ m us) (w:World):∀{fs:List Field} {r:Bool},eqS P l m fs=some r→(Op.eqFields 9999 vs.toArray us.toArray fs).run P w = .ok r w
  |[],r,h=>by cases h;simp[Op.eqFields]
  |f::fs,r,h=>by
    unfold eqS at h
    cases hn : decide (f.name = "_") with
    |true=>rw[hn] at h;cases h
    |false =>
      rw[hn,cond_false] at h
      have hn' : f.name ≠ "_" := of_decide_eq_false hn
      unfold Op.eqFields
      rw[if_pos hn']
      split at h
      · rename_i k0 k a k' b hu h1 h2
        cases hk:kEq k k' with
        |false=>rw[hk] at h;cases h
        |true =>
          rw[hk,cond_true] at h
          have:=Tm hk;subst this
          split at h
          · rename_i r' hr
            cases h
            obtain⟨v,hv,kv⟩:=hl.get h1
            obtain⟨u,hu',ku⟩:=hm.get h2
            simp only[VR] at kv ku;subst kv ku
            simp only[Sem.run_bind,Lv w (.inl ⟨_,hu⟩) hv,Lv w (.inl ⟨_,hu⟩) hu',Result.andThen_ok,run_equalIn_int w 9998 f.type k k0 a b hu,Sem.run_ite,Ql hl hm w hr]
            by_cases e:a=b
            · subst e;simp
            · simp[e]
          · cases h
      · rename_i a b hu h1 h2
        split at h
        · rename_i r' hr
          cases h
          obtain⟨v,hv,kv⟩:=hl.get h1
          obtain⟨u,hu',ku⟩:=hm.get h2
          simp only[VR] at kv ku;subst kv ku
          simp only[Sem.run_bind,Lv w (.inr (.inl hu)) hv,Lv w (.inr (.inl hu)) hu',Result.andThen_ok,run_equalIn_string w 9998 f.type _ _ hu,Sem.run_ite,Ql hl hm w hr,Ms]
          by_cases e:a=b
          · subst e;simp
          · simp[e]
        · cases h
      · rename_i a b hu h1 h2
        split at h
        · rename_i r' hr
          cases h
          obtain⟨v,hv,kv⟩:=hl.get h1
          obtain⟨u,hu',ku⟩:=hm.get h2
          simp only[VR] at kv ku;subst kv ku
          simp only[Sem.run_bind,Lv w (.inr (.inr hu)) hv,Lv w (.inr (.inr hu)) hu',Result.andThen_ok,run_equalIn_bool' w 9998 f.type a b hu,Sem.run_ite,Ql hl hm w hr]
          cases a<;>cases b<;>simp
        · cases h
      · cases h
def HasA (s:Fr) (X:Operand) (l:List AV):Prop:=evA s X=some (.agg l)∨∃q,evA s X=some (.cond q (.agg l))∧q=true
theorem HasA.get {s:Fr} {X:Operand} {l:List AV} (h:HasA s X l) (hf:FRel φ n s σ):∃vs,VRl φ l vs∧ev n σ X = .agg vs.toArray:=by
  rcases h with h|⟨q,h,hq⟩
  · have:=hf.ev _ _ h;simpa only [VR] using this
  · have:=(hf.ev _ _ h).condT hq;simpa only [VR] using this
theorem Q6k {dst : Option Tmp} {X Y : Operand} {t t' ty : TypeId} {ps : String} {af : Array Edge} {g : Option (Nat × Bool)} {s : Fr} {l m : List AV} {r : Bool} (hx : HasA s X l) (hy : HasA s Y m)
    (hr:eqS P l m (P.fieldsOf t).toList=some r) (ht:P.underlying t=some (.struct (P.fieldsOf t))) (hp:P.stoodInHeld t=false) (hg:P.eqGuardType P.depth t=false) (φ:Phi) (σ:Nat→Value) (h:FRel φ n s σ) :
    ∃v,(∀w,(execOp (ev n σ) ⟨dst,.binOp .neq t X Y t',ty,ps,af,g⟩).run P w = .ok (.value v) w)∧VR φ (.bool (!r)) v:=by
  obtain⟨vs,h1,e1⟩:=hx.get h
  obtain⟨us,h2,e2⟩:=hy.get h
  refine⟨.bool (!r),fun w=>?_,by simp only[VR]⟩
  simp only[execOp,e1,e2,Sem.run_bind,run_eqGuard_agg w .neq t X Y _ _ hg,Result.andThen_ok,run_neq_struct w t,run_equalIn_struct w 9999 t _ _ ht hp,Ql h1 h2 w hr,Sem.run_pure]
end
def X8j (P:Program) (C:(Nat→Option Obj)→Prop) (f:Nat) (al:List AV) (r:AV):Prop:=∀(F:Nat→Option Obj) (w:World) (vs:List Value),C F→Fro F w→VRl (ofF F) al vs→Calls P f vs.toArray w (Ret fun v w'=>Below w.heap.size w w' ∧
  ∃F',(∀b o,F b=some o→F' b=some o)∧Fro F' w'∧(∀b o,F' b=some o→F b=some o∨w.heap.size≤b)∧VR (ofF F') r v)
theorem FnV.g {P:Program} {C:(Nat→Option Obj)→Prop} {f:Nat} {al:List AV} {r:AV} (h:FnV P f al r):X8j P C f al r:=fun F w vs _ hF hv=>h F w vs hF hv
section
variable {P : Program} {B : Bas} {w : World} {F F0 : Cx} {n : Nat} {φ : Phi} {σ : Nat → Value} {K : Exit → St → Prop} {x y : St} {C : (Nat → Option Obj) → Prop}
end
end Sv
end
section
open Go Go.RowKit
namespace Sv
mutual
noncomputable def noO:AV→Bool
  |.own _=>false
  |.op _ _=>false
  |.fn _ first cap=>noOl first&&noOl cap
  |.ifc _ a=>noO a
  |.agg l=>noOl l
  |.tup l=>noOl l
  |.cond _ a=>noO a
  |_=>true
noncomputable def noOl:List AV→Bool
  |[]=>true
  |a::l=>noO a&&noOl l
end
structure Keep (φ φ':Phi):Prop where
  m:∀b x,φ b=some x→φ' b=some x
  f:∀k o,φ.f k=some o→φ'.f k=some o
mutual
theorem VR.noO:∀{a:AV} {φ φ':Phi} {v:Value},Keep φ φ'→VR φ a v→noO a=true→VR φ' a v
  |.bool _,_,_,_,_,k,_=>k
  |.int _ _,_,_,_,_,k,_=>k
  |.str _,_,_,_,_,k,_=>k
  |.ptr _ _,_,_,_,t,k,h=>by simp only[VR] at k ⊢;obtain⟨x,κ,e,r⟩:=k;exact⟨x,κ,t.m _ _ e,r⟩
  |.nilp,_,_,_,_,k,_=>k
  |.sl _ _ _ _ _,_,_,_,t,k,h=>by simp only[VR] at k ⊢;obtain⟨x,κ,e,r⟩:=k;exact⟨x,κ,t.m _ _ e,r⟩
  |.nils,_,_,_,_,k,_=>k
  |.sle,_,_,_,_,k,_=>k
  |.map _,_,_,_,t,k,h=>by simp only[VR] at k ⊢;obtain⟨x,κ,e,r⟩:=k;exact⟨x,κ,t.m _ _ e,r⟩
  |.nilm,_,_,_,_,k,_=>k
  |.fn _ _ _,_,_,_,t,k,h=>by
    simp only[VR] at k ⊢
    simp only[noO,Bool.and_eq_true] at h
    obtain⟨a,b,e1,e2,r⟩:=k;exact⟨a,b,VRl.noO t e1 h.1,VRl.noO t e2 h.2,r⟩
  |.nilf,_,_,_,_,k,_=>k
  |.ifc _ _,_,_,_,t,k,h=>by
    simp only[VR] at k ⊢
    simp only[noO] at h
    obtain⟨u,e,r⟩:=k;exact⟨u,VR.noO t e h,r⟩
  |.nili,_,_,_,_,k,_=>k
  |.agg _,_,_,_,t,k,h=>by
    simp only[VR] at k ⊢
    simp only[noO] at h
    obtain⟨u,e,r⟩:=k;exact⟨u,VRl.noO t e h,r⟩
  |.tup _,_,_,_,t,k,h=>by
    simp only[VR] at k ⊢
    simp only[noO] at h
    obtain⟨u,e,r⟩:=k;exact⟨u,VRl.noO t e h,r⟩
  |.raw _,_,_,_,_,k,_=>k
  |.row _ _ _,_,_,_,t,k,_=>by
    simp only[VR] at k ⊢
    obtain⟨u,k1,k2⟩:=k
    exact⟨u,fun i hi=>(k1 i hi).mono (D8 t.f),by
      rcases k2 with k2|⟨b,o,c,rfl,k0,k2⟩
      · exact .inl k2
      · exact .inr ⟨b,o,c,rfl,k0,fun i hi=>⟨(k2 i hi).1,by obtain⟨cs,e,fr,q1,q2⟩:=(k2 i hi).2;exact⟨cs,e,fr,t.f _ _ q1,q2⟩⟩⟩⟩
  |.fp _,_,_,_,t,k,_=>by
    simp only[VR] at k ⊢
    obtain⟨b,o,u,e,k1,cs,e',fr,q1,q2⟩:=k
    exact⟨b,o,u,e,k1.mono (D8 t.f),cs,e',fr,t.f _ _ q1,q2⟩
  |.own c,_,_,_,_,_,h=>by cases h
  |.op c _,_,_,_,_,_,h=>by cases h
  |.clo _,_,_,_,t,k,_=>by
    simp only[VR] at k ⊢
    exact⟨k.1.mono (D8 t.f),k.2⟩
  |.smap _ _,_,_,_,t,k,_=>by
    simp only[VR] at k ⊢
    obtain⟨x,es,clk,m,e,e1,e2,e3⟩:=k
    exact⟨x,es,clk,m,e,t.f _ _ e1,e2,fun s=>⟨fun u hu=>((e3 s).1 u hu).mono (D8 t.f),fun hu=>((e3 s).2 hu).mono (D8 t.f)⟩⟩
  |.cond _ _,_,_,_,t,k,h=>by
    simp only[VR] at k ⊢
    simp only[noO] at h
    exact⟨fun q=>VR.noO t (k.1 q) h,k.2⟩
theorem VRl.noO:∀{l:List AV} {φ φ':Phi} {vs:List Value},Keep φ φ'→VRl φ l vs→noOl l=true→VRl φ' l vs
  |[],_,_,_,_,k,_=>by rw[k.nil_inv];exact .nil
  |_::_,_,_,_,t,k,h=>by
    simp only[VRl] at k ⊢
    simp only[noOl,Bool.and_eq_true] at h
    obtain⟨v,vs',e,e1,e2⟩:=k;exact⟨v,vs',e,VR.noO t e1 h.1,VRl.noO t e2 h.2⟩
end
noncomputable def clearO (a:AV):AV:=bif noO a then a else Bp
theorem VR.clearO {φ φ':Phi} {a:AV} {v:Value} (hm:∀b x,φ b=some x→φ' b=some x) (hf:∀k o,φ.f k=some o→φ'.f k=some o) (k:VR φ a v):VR φ' (clearO a) v:=by
  unfold Sv.clearO
  cases h:Sv.noO a with
  |true=>exact VR.noO ⟨hm,hf⟩ k h
  |false=>exact Tn
noncomputable def Q0n (P:Program) (n:Nat) (dst:Option Nat) (rs:List ResultVar) (s0:Fr) (k:St→Prop):Exit→St→Prop:=fun e y =>
  (e = .ret∨e = .normal)∧∃al s',Hw P rs y=some al∧B6 n dst (An al) s0=some s'∧k ⟨s',y.h,y.nx⟩
theorem G4 {P:Program} {n:Nat} {dst:Option Nat} {rs:List ResultVar} {s0:Fr} {k:St→Prop} {e:Exit} {y:St} {al:List AV} {s':Fr} (he:e = .ret∨e = .normal) (h1:Hw P rs y=some al) (h2:B6 n dst (An al) s0=some s') (h3:k ⟨s',y.h,y.nx⟩):Q0n P n dst rs s0 k e y:=⟨he,al,s',h1,h2,h3⟩
section
variable {P : Program} {B : Bas} {w : World} {F F0 : Cx} {n : Nat} {φ : Phi} {σ : Nat → Value} {K : Exit → St → Prop} {x y : St} {ops : Array Oper}
theorem J7 {rest : List Oper} {f : FuncId} {ar : Array Operand} {ts : Array TypeId} {ty : TypeId} {ps : String} {dst : Option Tmp} {af : Array Edge} {g : Option (Nat × Bool)} {al : List AV} {fn : Func} {c : Code} {n' : Nat} {s0 : Fr} (rs : List ResultVar)
    (hg:Dh ops x.s g=true) (he:Au P f) (ha:Ea (evA x.s) ar.toList=some al) (hf:P.funcs[f]? = some fn) (hb:fn.body=some c) (hn:fn.ntmps=n') (hr:fn.results=rs.toArray) (hle:Nat.ble al.length n'=true) (hs:Hi clearO x.s=s0)
    (h:∀F':Cx,F'.lo=x.nx→(∀b o,F.f b=some o→F'.f b=some o)→SW P n' c B F' (Q0n P n dst rs s0 (SO P n ops rest B F K)) ⟨I8 0 al,x.h,x.nx⟩) :
    SO P n ops (⟨dst,.call { callee:=.value (.func f),args:=ar,argTypes:=ts },ty,ps,af,g⟩::rest) B F K x:=by
  intro φ σ w hx
  have hv:=Fq hx.fr.ev ha
  have hlen:=hv.length
  have hcm:∀b z,(if b < x.nx then φ b else none)=some z→b < x.nx:=by
    intro b z e
    by_cases hb:b < x.nx
    · exact hb
    · rw[if_neg hb] at e;cases e
  have hx':Holds B ⟨φ.f,fun b=>if b < x.nx then φ b else none,x.nx,hcm⟩ n' ⟨I8 0 al,x.h,x.nx⟩ φ (I7 (ar.toList.map (ev n σ))) w:=by
    refine⟨fun t a e=>?_,hx.rel,hx.dom,fun _ _ e=>e,fun _ _ e => .inl e,fun b z e=>?_⟩
    · obtain⟨h1,h2,h3⟩:=P4 hv e
      rw[Nat.sub_zero] at h2 h3
      have hal':al.length≤n':=Nat.le_of_ble_eq_true hle
      have ht:Nat.blt t n'=true:=by simp only[Nat.blt_eq];omega
      simp only[sl,ht,cond_true,I7];exact h2
    · by_cases hb:b < x.nx
      · simpa only [if_pos hb] using e
      · simp only[if_neg hb] at e;cases e
  have hcall:Calls P f (ar.toList.map (ev n σ)).toArray w (Ret fun v w'=>∃y φ' σ' al' s',Holds B ⟨φ.f,fun b=>if b < x.nx then φ b else none,x.nx,hcm⟩ n' y φ' σ' w'∧VR φ' (An al') v∧B6 n dst (An al') s0=some s'∧SO P n ops rest B F K ⟨s',y.h,y.nx⟩):=by
    refine Ig hf hb hn ?_ (by rw[hlen];exact hle)
    refine Hr (h ⟨φ.f,fun b=>if b < x.nx then φ b else none,x.nx,hcm⟩ rfl hx.old _ _ _ hx') ?_
    rintro e σ' w' ⟨y,φ',hy,hee,al',s',k1,k2,k3⟩
    obtain⟨vs',hvs,hrun⟩:=Pb (P:=P) hy.fr hy.rel k1
    have fin:K5 P n' fn (Ret fun v w''=>∃y φ' σ' al' s',Holds B ⟨φ.f,fun b=>if b < x.nx then φ b else none,x.nx,hcm⟩ n' y φ' σ' w''∧VR φ' (An al') v∧B6 n dst (An al') s0=some s'∧SO P n ops rest B F K ⟨s',y.h,y.nx⟩) .ret σ' w' :=
      ⟨_,Sk hr hrun,_,rfl,y,φ',σ',al',s',hy,Sx hvs,k2,k3⟩
    rcases hee with rfl|rfl
    · exact fin
    · exact fin
  refine Gc (Df hx.fr hg) he hcall ?_
  rintro v w' ⟨y,φ',σ',al',s',hy,hvr,k2,k3⟩
  have hm:∀b z,φ b=some z→φ' b=some z:=by
    intro b z e
    refine hy.base b z ?_
    have:b < x.nx:=by
      by_cases hb:b < x.nx
      · exact hb
      · rw[(hx.dom b (by omega)).1] at e;cases e
    simpa only [if_pos this] using e
  have hfr:FRel φ' n s0 σ:=by
    subst hs
    intro t a e
    rw[Nv] at e
    obtain⟨a0,h1,rfl⟩:=Option.map_eq_some_iff.1 e
    exact VR.clearO hm hy.old (hx.fr t a0 h1)
  exact k3 φ' _ w' ⟨hfr.put k2 hvr,hy.rel,hy.dom,fun b o e=>hy.old b o (hx.old b o e),fun b o e=>(hy.new b o e).elim (hx.new b o) .inr,fun b z e=>hm b z (hx.base b z e)⟩
def SR (P:Program) (n:Nat) (c:Code) (B:Bas) (F:Cx) (K:Exit→St→Prop):Nat→St→Prop
  |0,_=>False
  |k+1,x=>SW P n c B F (Ke (SR P n c B F K k) K) x
theorem Rf {c:Code} (k:Nat) (h:SR P n c B F K k x):SW P n (.loop c) B F K x:=by
  intro φ σ w hx
  unfold W
  refine wp_loop_rounds k ?_
  have key:∀k x φ σ w,SR P n c B F K k x→Holds B F n x φ σ w→Code.rounds P c (F8 n (Mn B F n K)) k (mk n σ) w:=by
    intro k
    induction k with
    |zero=>intro x φ σ w h _;exact h.elim
    |succ k ih =>
      intro x φ σ w h hx
      have h':=h φ σ w hx
      unfold W at h'
      refine wp_mono h' ?_
      rintro e a w' ⟨σ',rfl,y,φ',hy,q⟩
      cases e with
      |normal=>exact ih y φ' σ' w' q hy
      |_=>exact⟨σ',rfl,y,φ',hy,q⟩
  exact key k x φ σ w h hx
theorem Fs {c:Code} {k:Nat} (h:SW P n c B F (Ke (SR P n c B F K k) K) x):SR P n c B F K (k+1) x:=h
def FunV (P:Program) (a:AV) (al:List AV) (r:AV):Prop:=∀(F:Nat→Option Obj) (v:Value),VR (ofF F) a v→∃g vc,v = .func (.func g) #[] vc∧Au P g ∧
  ∀(F':Nat→Option Obj) (w:World) (vs:List Value),(∀b o,F b=some o→F' b=some o)→Fro F' w→VRl (ofF F') al vs→Calls P g (vs.toArray++vc) w (Ret fun v w'=>Below w.heap.size w w' ∧
    ∃F'',(∀b o,F' b=some o→F'' b=some o)∧Fro F'' w'∧(∀b o,F'' b=some o→F' b=some o∨w.heap.size≤b)∧VR (ofF F'') r v)
theorem FunV.of {P:Program} {g:Nat} {cap al:List AV} {r:AV} (he:Au P g) (h:FnV P g (al++cap) r):FunV P (.fn g [] cap) al r:=by
  intro F v hv
  simp only[VR] at hv
  obtain⟨vf,vc,h1,h2,rfl⟩:=hv
  rw[h1.nil_inv]
  refine⟨g,vc.toArray,rfl,he,fun F' w vs hle hF hvs=>?_⟩
  have:=h F' w (vs++vc) hF (hvs.append (h2.mono (Lz hle)))
  rw[show vs.toArray++vc.toArray=(vs++vc).toArray by apply Array.ext';simp]
  exact this
theorem FunV.clo {P:Program} {a:AV} {al:List AV} {r:AV} (h:FunV P a al r):FunV P (.clo a) al r:=fun F v hv=>by
  simp only[VR] at hv
  exact h F v hv.1
theorem Imp.clo {g:Nat} {cap:List AV} (h:frzl cap=true):Imp (.fn g [] cap) (.clo (.fn g [] cap)):=fun φ v hv=>by
  have hz:=hv.fz (by simp[frz,frzl,h])
  simp only[VR] at hz ⊢
  refine⟨hz,?_⟩
  obtain⟨vf,vc,h1,h2,rfl⟩:=hz
  rw[h1.nil_inv]
  exact⟨g,vc.toArray,rfl⟩
theorem FunV.imp {P:Program} {a b:AV} {al:List AV} {r:AV} (h:FunV P b al r) (i:Imp a b):FunV P a al r:=fun F v hv=>h F v (i _ _ hv)
theorem Fu {rest : List Oper} {t : Nat} {ar : Array Operand} {ts : Array TypeId} {ty : TypeId} {ps : String} {dst : Option Tmp} {af : Array Edge} {g : Option (Nat × Bool)} {a : AV} {al : List AV} {r : AV} {s' : Fr}
    (hg:Dh ops x.s g=true) (hc:Cl t x.s=some a) (hza:frz a=true) (ha:Ea (evA x.s) ar.toList=some al) (hz:frzl al=true) (hf:FunV P a al r) (hp:B6 n dst r x.s=some s')
    (next:SO P n ops rest B F K ⟨s',x.h,x.nx⟩):SO P n ops (⟨dst,.call { callee:=.value (.tmp t),args:=ar,argTypes:=ts },ty,ps,af,g⟩::rest) B F K x:=by
  intro φ σ w hx
  obtain⟨gg,vc,h1,h2,h3⟩:=hf φ.f _ ((hx.fr _ _ hc).fz hza)
  have hv:=(Fq hx.fr.ev ha).fz hz
  have:=h3 φ.f w _ (fun _ _ e=>e) hx.rel.fro hv
  rw[show((ar.toList.map (ev n σ)).toArray++vc)=(ar.toList.map (ev n σ)++vc.toList).toArray by apply Array.ext';simp] at this
  refine Oo (x:=.tmp t) (cap:=vc) (Df hx.fr hg) h1 h2 this ?_
  rintro v w' ⟨hb,F',h1,h2,h3,h4⟩
  have hh:=hx.called hb h1 h2 h3
  exact next _ _ _ ⟨hh.fr.put hp (h4.mono (Phi.le_fz ⟨φ.m,φ.s,F'⟩)),hh.rel,hh.dom,hh.old,hh.new,hh.base⟩
noncomputable def Lu:AV→Bool
  |.bool _=>true
  |.int _ _=>true
  |.str _=>true
  |_=>false
theorem Pl {φ φ':Phi} {a:AV} {v:Value} (h:Lu a=true) (k:VR φ a v):VR φ' a v:=by
  cases a<;>simp only[Lu,Bool.false_eq_true] at h<;>simpa only [VR] using k
theorem Jd {rest : List Oper} {f : FuncId} {ar : Array Operand} {ts : Array TypeId} {ty : TypeId} {ps : String} {dst : Option Tmp} {af : Array Edge} {g : Option (Nat × Bool)} {al al' : List AV} {h' : AH} {r : AV} {s' : Fr}
    (hg:Dh ops x.s g=true) (he:Au P f) (ha:Ea (evA x.s) ar.toList=some al) (hz:frzVl P x.h al=some (al',h')) (hf:FnV P f al' r) (hr:Lu r=true) (hp:B6 n dst r x.s=some s')
    (next:SO P n ops rest B F K ⟨s',x.h,x.nx⟩):SO P n ops (⟨dst,.call { callee:=.value (.func f),args:=ar,argTypes:=ts },ty,ps,af,g⟩::rest) B F K x:=by
  intro φ σ w hx
  obtain⟨F',f1,f2,f3,f4⟩:=frzVl_ok hz B φ w _ hx.rel (Fq hx.fr.ev ha)
  refine Gc (Df hx.fr hg) he (hf F' w _ f3.fro f4) ?_
  rintro v w' ⟨hb,F'',h1,h2,h3,h4⟩
  have hh:Holds B F n x φ σ w':=hx.called hb (fun _ _ e=>e) (fun b o e=>(hb.block b (Fc (hx.rel.fro b o e))).trans (hx.rel.fro b o e)) (fun _ _ e => .inl e)
  exact next _ _ _ ⟨hh.fr.put hp (Pl hr h4),hh.rel,hh.dom,hh.old,hh.new,hh.base⟩
end
end Sv
end
section
open Go Go.RowKit
namespace Sv
theorem Rel.turnO {B : Bas} {w w' : World} {φ φ' : Phi} {h : AH} (r : Rel B φ h w) {b : Nat} {o o' : AO} (hb : Bh b h = some o) (t : Turn φ φ' b) (hf : φ'.f = φ.f) (hbel : Bel B w') (hsz : w.heap.size ≤ w'.heap.size)
    (hkeep:∀k,k < w.heap.size→¬img φ b o k→w'.heap[k]? = w.heap[k]?) (ha:At B φ' w' b o') (hi:∀k,img φ' b o' k→¬B.old k∧k < w'.heap.size∧φ.f k=none∧∀c o1,c≠b→Bh c h=some o1→¬img φ c o1 k):Rel B φ' (Ch b o' (Ei b h)) w':=by
  have himg:∀c o,c≠b→img φ' c (Hx b o)=img φ c o:=by
    intro c o hc
    funext k
    cases o<;>simp only[Hx,img]<;>first|rw[t.m,t.s c hc]|rw[t.m]|rw[t.s c hc]
  have hoff:∀c o1 k,c≠b→Bh c h=some o1→img φ c o1 k→¬img φ b o k:=fun c o1 k hc e1 i1 i2=>hc (r.sep c b o1 o k e1 hb i1 i2)
  have h1:Rel B φ' (Ei b (Da b h)) w':=by
    have getd:∀c o,Bh c (Ei b (Da b h))=some o→∃o1,c≠b∧Bh c h=some o1∧o=Hx b o1:=by
      intro c o k
      rw[H6] at k
      obtain⟨o1,k1,k2⟩:=Option.map_eq_some_iff.1 k
      exact⟨o1,(Dx k1).1,(Dx k1).2,k2.symm⟩
    refine⟨hbel,fun k o2 q=>?_,?_,?_,?_⟩
    · rw[hf] at q
      have:=r.fro k o2 q
      rw[hkeep k (Fc this) (fun e=>by have:=(r.gf b o k hb e).2.2;rw[this] at q;cases q)];exact this
    · intro c o2 k
      obtain⟨o1,hc,k1,rfl⟩:=getd c o2 k
      have hk:∀j,img φ c o1 j→w'.heap[j]? = w.heap[j]? := fun j hj=>hkeep j (r.gf c o1 j k1 hj).2.1 (hoff c o1 j hc k1 hj)
      have ho:=r.obj c o1 k1
      cases o1 with
      |row c' e' =>
        obtain⟨x,κ,vs,q1,q2,q3⟩:=ho
        exact⟨x,κ,vs,by rw[t.m];exact q1,(hk x (by simp[img,q1])).trans q2,R8 t q3⟩
      |grow es0 e0 sz0=>exact ho.imp (o:=.grow es0 e0 sz0) ⟨t.s c hc,t.f⟩ hk
      |map es0 clk=>exact ho.imp (o:=.map es0 clk) ⟨t.m c,t.f⟩ hk
      |siter s p=>exact ho.imp (o:=.siter s p) (t.m c) hk
      |mm g ho' e0 sz0=>exact ho.imp (o:=.mm g ho' e0 sz0) ⟨t.m c,t.s c hc,t.f⟩ hk
    · intro c c' o2 o2' k k1 k2 i1 i2
      obtain⟨o1,hc1,e1,rfl⟩:=getd c o2 k1
      obtain⟨o2,hc2,e2,rfl⟩:=getd c' o2' k2
      rw[himg c o1 hc1] at i1;rw[himg c' o2 hc2] at i2
      exact r.sep c c' o1 o2 k e1 e2 i1 i2
    · intro c o2 k k1 i1
      obtain⟨o1,hc1,e1,rfl⟩:=getd c o2 k1
      rw[himg c o1 hc1] at i1
      have:=r.gf c o1 k e1 i1
      exact⟨this.1,Nat.lt_of_lt_of_le this.2.1 hsz,by rw[hf];exact this.2.2⟩
  have h2:Rel B φ' (Ch b o' (Ei b (Da b h))) w':=by
    refine h1.add ha fun k hk=>?_
    obtain⟨a1,a2,a3,a4⟩:=hi k hk
    refine⟨a1,a2,by rw[hf];exact a3,fun c o2 hc e1 i1=>?_⟩
    rw[H6,H7 hc] at e1
    obtain⟨o1,k1,rfl⟩:=Option.map_eq_some_iff.1 e1
    rw[himg c o1 hc] at i1
    exact a4 c o1 hc k1 i1
  refine h2.congr fun c=>?_
  by_cases hc:c=b
  · subst hc;rw[Hl,Hl]
  · rw[G5 _ hc,G5 _ hc,H6,H6,H7 hc]
def Phi.setS (φ:Phi) (b:Nat) (v:Value):Phi:=⟨φ.m,fun i=>if i=b then some v else φ.s i,φ.f⟩
theorem Nf (φ:Phi) (b:Nat) (v:Value):Turn φ (φ.setS b v) b:=⟨fun _=>rfl,fun c hc=>if_neg hc,fun _ _ e=>e⟩
theorem Kd (φ:Phi) (b:Nat) (v:Value):(φ.setS b v).s b=some v:=if_pos rfl
theorem Tj {n b:Nat} {φ φ':Phi} {s:Fr} {σ:Nat→Value} (t:Turn φ φ' b) (r:FRel φ n s σ):FRel φ' n (Hi (Hg b) s) σ:=by
  intro u a e
  rw[Nv] at e
  obtain⟨a0,h1,rfl⟩:=Option.map_eq_some_iff.1 e
  exact R9 t (r u a0 h1)
def D4 (g:List UInt8→List AV) (s:List UInt8) (es:List AV):List UInt8→List AV:=fun t=>if t=s then es else g t
noncomputable def mmS (b e sz:Nat) (x:St):Option St:=match Bh b x.h with
  |some (.map [] 0)=>some ⟨Hi (Hg b) x.s,Ch b (.mm (fun _=>[]) none e sz) (Ei b x.h),x.nx⟩
  |_=>none
section
variable {P : Program} {B : Bas} {w : World} {F F0 : Cx} {n : Nat} {φ : Phi} {σ : Nat → Value} {K : Exit → St → Prop} {x y : St} {ops : Array Oper}
theorem Holds.mm {b e sz:Nat} (h:Holds B F n x φ σ w) (k:mmS b e sz x=some y):∃φ',Holds B F n y φ' σ w:=by
  unfold mmS at k
  split at k
  · rename_i hb
    cases k
    obtain⟨x0,κ,l,h1,h2,h3⟩:=h.rel.obj b _ hb
    simp only[MR] at h3
    have hl:l = #[]:=by apply Array.ext';exact h3
    subst hl
    refine⟨φ.setS b (Fk none []),Tj (Nf φ b _) h.fr,h.rel.turnO hb (Nf φ b _) rfl h.rel.below (Nat.le_refl _) (fun _ _ _=>rfl) ?_ ?_,fun c hc=>?_,h.old,h.new,h.base⟩
    · refine⟨x0,κ,#[],0,[],h1,h2,rfl,List.nodup_nil,Kd _ _ _,fun s u hu=>(by cases hu),fun _ _=>rfl,fun s u hu=>(by cases hu),fun s s' u u' k hu=>(by cases hu)⟩
    · intro k hk
      have hx:img φ b (.map [] 0) x0:=by simp[img,h1]
      have:k=x0:=by
        rcases hk with hk|⟨l,hl,u,hu,_⟩
        · have hk':(φ b).map (·.1)=some k:=hk
          rw[h1] at hk';simpa using hk'.symm
        · rw[Kd] at hl
          have:=Value.tuple.inj (Option.some.inj hl)
          subst this;simp at hu
      subst this
      have hg:=h.rel.gf b _ k hb hx
      exact⟨hg.1,hg.2.1,hg.2.2,fun c o1 hc e i=>hc (h.rel.sep c b o1 _ k e hb i hx)⟩
    · refine⟨(h.dom c hc).1,?_⟩
      show(if c=b then _ else _)=_
      rw[if_neg ?_]
      · exact(h.dom c hc).2
      · rintro rfl;rw[(h.dom c hc).1] at h1;cases h1
  · cases k
theorem Q40 {c:Code} (b e sz:Nat) (k:mmS b e sz x=some y) (h:SW P n c B F K y):SW P n c B F K x:=fun φ σ w hx=>by
  obtain⟨φ',hh⟩:=hx.mm k
  exact h _ _ _ hh
noncomputable def Wj (n:Nat) (b:Nat) (s:List UInt8) (dst:Option Nat) (x:St):Option St:=match Bh b x.h with
  |some (.mm g none e sz)=>match B6 n dst (.own x.nx) (Hi (Hg b) x.s) with
    |some s'=>some ⟨s',Ch x.nx (.grow (g s) e sz) (Ch b (.mm g (some s) e sz) (Ei b x.h)),x.nx+1⟩
    |none=>none
  |_=>none
theorem Fe {rest : List Oper} {t kt et : TypeId} {X I : Operand} {dst : Option Tmp} {ty : TypeId} {ps : String} {af : Array Edge} {g : Option (Nat × Bool)} {b : Nat} {s : List UInt8}
    (hg:Dh ops x.s g=true) (hX:evA x.s X=some (.map b)) (hI:evA x.s I=some (.str s)) (ht:P.underlying t=some (.map kt et)) (hk:P.underlying kt=some .string) (hz:∀w,(zeroValue et).run P w = .ok (.slice none 0 0) w)
    (hy:Wj n b s dst x=some y) (next:SO P n ops rest B F K y):SO P n ops (⟨dst,.lookup t X I false,ty,ps,af,g⟩::rest) B F K x:=by
  intro φ σ w hx
  unfold Wj at hy
  split at hy
  · rename_i gg e sz hb
    split at hy
    · rename_i s' hp
      cases hy
      have v1:=hx.fr.ev _ _ hX
      have v2:=hx.fr.ev _ _ hI
      simp only[VR] at v1 v2
      obtain⟨x0,κ,e0,v1⟩:=v1
      obtain⟨x1,κ1,es,clk,m,h1,h2,h3,h4,h5,h6,h7,h8,h9⟩:=hx.rel.obj b _ hb
      rw[e0] at h1;cases h1
      have hm:MapIs w x0 (D6 S id m):=⟨es,clk,h2,h3⟩
      refine Db (Df hx.fr hg) (Vx (enc:=S) (val:=id) (k:=s) (m:=m) v1 v2 hm (Tk hk) ht hz) ?_
      rw[show(Option.map id (Bx m s)).getD (.slice none 0 0)=(Bx m s).getD (.slice none 0 0) by simp]
      have hs:=(hx.dom x.nx (Nat.le_refl _)).2
      have hbn:b≠x.nx:=by rintro rfl;rw[(hx.dom _ (Nat.le_refl _)).1] at e0;cases e0
      have hxi:img φ b (.mm gg none e sz) x0:=.inl (by rw[e0];rfl)
      have hin:∀{t u k},Bx m t=some u→u.ownBlock=some k→img φ b (.mm gg none e sz) k:=by
        intro t u k hu hk
        obtain⟨l,b1,b2⟩:=Pe (hole:=none) h4 hu (by simp)
        exact .inr ⟨l,by rw[h5,b1],u,b2,hk⟩
      have r1:Rel B (φ.setS b (Fk (some s) m)) (Ch b (.mm gg (some s) e sz) (Ei b x.h)) w:=by
        refine hx.rel.turnO hb (Nf φ b _) rfl hx.rel.below (Nat.le_refl _) (fun _ _ _=>rfl) ?_ ?_
        · exact⟨x0,κ,es,clk,m,e0,h2,h3,h4,Kd _ _ _,fun t u hu ht=>h6 t u hu (by simp),h7,fun t u hu ht=>h8 t u hu (by simp),fun t t' u u' k hu hu' ht ht'=>h9 t t' u u' k hu hu' (by simp) (by simp)⟩
        · intro k hk
          have hki:img φ b (.mm gg none e sz) k:=by
            rcases hk with hk|⟨l,hl,u,hu,hk⟩
            · exact .inl hk
            · rw[Kd] at hl
              obtain⟨t,q1,q2⟩:=Sd h4 (Option.some.inj hl) hu
              exact hin q1 hk
          have hg:=hx.rel.gf b _ k hb hki
          exact⟨hg.1,hg.2.1,hg.2.2,fun c o1 hc e i=>hc (hx.rel.sep c b o1 _ k e hb i hki)⟩
      have t1:=Nf φ b (Fk (some s) m)
      have hs1:(φ.setS b (Fk (some s) m)).s x.nx=none:=by show(if x.nx=b then _ else _)=_;rw[if_neg (Ne.symm hbn)];exact hs
      obtain⟨v,hv⟩:∃v,(Bx m s).getD (.slice none 0 0)=v:=⟨_,rfl⟩
      rw[hv]
      have hform:∃a n c,v = .slice a n c:=by
        cases hl:Bx m s with
        |none=>rw[hl] at hv;subst hv;exact⟨_,_,_,rfl⟩
        |some u =>
          rw[hl] at hv;subst hv
          obtain⟨vs,q1,_⟩:=h6 s u hl (by simp)
          obtain⟨a,c,rfl⟩:=Yl q1;exact⟨_,_,_,rfl⟩
      have hat:At B ((φ.setS b (Fk (some s) m)).extS x.nx v) w x.nx (.grow (gg s) e sz):=by
        cases hl:Bx m s with
        |none =>
          rw[hl] at hv;subst hv
          rw[h7 s hl]
          exact⟨_,[],Phi.extS_same _ _ _,World.ownsRow_nil w _ _ _,.nil,by simp⟩
        |some u =>
          rw[hl] at hv;subst hv
          obtain⟨vs,q1,q2,q3⟩:=h6 s u hl (by simp)
          exact⟨u,vs,Phi.extS_same _ _ _,q1,q2,q3⟩
      have r2:=(r1.go (Phi.extS_le hs1) (Below.refl _ _) r1.fro (fun b o q => .inl q)).add hat (fun k hk=>by
        simp only[img,Phi.extS_same,Option.bind_some] at hk
        have hl:∃u,Bx m s=some u∧u=v:=by
          cases hl:Bx m s with
          |none=>rw[hl] at hv;subst hv;simp[Value.ownBlock] at hk
          |some u=>rw[hl] at hv;exact⟨u,rfl,hv⟩
        obtain⟨u,hl,rfl⟩:=hl
        have hki:=hin hl hk
        have hg:=hx.rel.gf b _ k hb hki
        refine⟨hg.1,hg.2.1,hg.2.2,fun c o1 hc e1 i1=>?_⟩
        have hso:SameO (φ.setS b (Fk (some s) m)) ((φ.setS b (Fk (some s) m)).extS x.nx u) c o1:=SameO.of_le (Phi.extS_le hs1) (r1.obj c o1 e1)
        rw[hso.img] at i1
        by_cases hcb:c=b
        · subst hcb
          rw[Hl] at e1;cases e1
          rcases i1 with i1|⟨l,hl',u',hu',hk'⟩
          · have i1':(φ c).map (·.1)=some k:=i1
            rw[e0] at i1'
            simp only[Option.map_some,Option.some.injEq] at i1'
            exact h8 s u hl (by simp) (by rw[hk,i1'])
          · rw[Kd] at hl'
            obtain⟨t,q1,q2⟩:=Sd h4 (Option.some.inj hl') hu'
            exact q2 (by rw[h9 s t u u' k hl q1 (by simp) (by simp) hk hk'])
        · rw[G5 _ hcb,H6] at e1
          obtain⟨o2,k2,rfl⟩:=Option.map_eq_some_iff.1 e1
          have:img (φ.setS b (Fk (some s) m)) c (Hx b o2)=img φ c o2:=by
            funext k
            cases o2<;>simp only[Hx,img]<;>first|rw[t1.m,t1.s c hcb]|rw[t1.m]|rw[t1.s c hcb]
          rw[this] at i1
          exact hcb (hx.rel.sep c b o2 _ k k2 hb i1 hki))
      have hfr:FRel ((φ.setS b (Fk (some s) m)).extS x.nx v) n (Hi (Hg b) x.s) σ:=fun u a e=>(Tj t1 hx.fr u a e).mono (Phi.extS_le hs1)
      refine next _ _ w ⟨hfr.put hp ?_,r2,fun c hc=>?_,hx.old,hx.new,hx.base⟩
      · simp only[VR];exact⟨Phi.extS_same _ _ _,hform⟩
      · have hc':x.nx+1≤c:=by assumption
        refine⟨(hx.dom c (by omega)).1,?_⟩
        show(if c=x.nx then _ else (if c=b then _ else _))=_
        rw[if_neg (by omega),if_neg (by rintro rfl;rw[(hx.dom _ (by omega)).1] at e0;cases e0)]
        exact(hx.dom c (by omega)).2
    · cases hy
  · cases hy
noncomputable def Xr (b c:Nat) (x:St):Option St:=match Bh b x.h,Bh c x.h with
  |some (.mm g (some s) e sz),some (.grow es e' sz')=>bif Nat.beq e e'&&Nat.beq sz sz'&&!Nat.beq b c then some ⟨Hi (Hg b) x.s,Ch b (.mm (D4 g s es) none e sz) (Ei b (Da c x.h)),x.nx⟩ else none
  |_,_=>none
noncomputable def Q0v (b:Nat) (h:AH):Option (List UInt8):=match Bh b h with
  |some (.mm _ (some s) _ _)=>some s
  |_=>none
theorem J0 {m:List (List UInt8 × Value)} {k j:List UInt8} {a:Value} (hne:j≠k):Bx (Ec m k a) j=Bx m j:=X6d m k j a hne
theorem Rh {rest : List Oper} {t kt et : TypeId} {X I Y : Operand} {dst : Option Tmp} {ty : TypeId} {ps : String} {af : Array Edge} {g : Option (Nat × Bool)} {b c : Nat} {s s1 : List UInt8} {s' : Fr}
    (hg:Dh ops x.s g=true) (hX:evA x.s X=some (.map b)) (hI:evA x.s I=some (.str s)) (hY:evA x.s Y=some (.own c)) (hq:Q0v b x.h=some s1) (hs1:s1=s) (ht:P.underlying t=some (.map kt et)) (hk:P.underlying kt=some .string)
    (hy:Xr b c x=some y) (hp:B6 n dst (.tup []) y.s=some s') (next:SO P n ops rest B F K ⟨s',y.h,y.nx⟩):SO P n ops (⟨dst,.mapUpdate t X I Y,ty,ps,af,g⟩::rest) B F K x:=by
  obtain rfl:s=s1:=hs1.symm
  intro φ σ w hx
  unfold Xr at hy
  split at hy
  · rename_i gg s0 e sz es e' sz' hb hc
    obtain⟨q,hy⟩:=Dn hy
    cases hy
    simp only[Bool.and_eq_true,Bool.not_eq_true'] at q
    obtain⟨⟨q2,q3⟩,q4⟩:=q
    unfold Q0v at hq
    rw[hb] at hq
    cases hq
    have:=Nat.eq_of_beq_eq_true q2;subst this
    have:=Nat.eq_of_beq_eq_true q3;subst this
    have hbc:b≠c:=by rintro rfl;rw[Nat.beq_refl] at q4;cases q4
    have v1:=hx.fr.ev _ _ hX
    have v2:=hx.fr.ev _ _ hI
    have v3:=hx.fr.ev _ _ hY
    simp only[VR] at v1 v2 v3
    obtain⟨x0,κ,e0,v1⟩:=v1
    obtain⟨hsc,_⟩:=v3
    obtain⟨x1,κ1,ens,clk,m,h1,h2,h3,h4,h5,h6,h7,h8,h9⟩:=hx.rel.obj b _ hb
    rw[e0] at h1;cases h1
    obtain⟨v,vs,a1,a2,a3,a4⟩:=hx.rel.obj c _ hc
    rw[hsc] at a1
    have a1:=Option.some.inj a1
    have hm:MapIs w x0 (D6 S id m):=⟨ens,clk,h2,h3⟩
    obtain⟨w',o,u1,u2,u3⟩:=Q66 (Tk hk) ht w x0 m s (ev n σ Y) h4 hm
    have hxi:img φ b (.mm gg (some s) e sz) x0:=.inl (by rw[e0];rfl)
    have hci:∀k,(ev n σ Y).ownBlock=some k→img φ c (.grow es e sz) k:=fun k hk=>by simp only[img,hsc,Option.bind_some];exact hk
    have hin:∀{t u k},Bx m t=some u→t≠s→u.ownBlock=some k→img φ b (.mm gg (some s) e sz) k:=by
      intro t u k hu hts hk
      obtain⟨l,b1,b2⟩:=Pe (hole:=some s) h4 hu (by simpa using hts)
      exact .inr ⟨l,by rw[h5,b1],u,b2,hk⟩
    have hvx:(ev n σ Y).ownBlock≠some x0:=fun q=>hbc (hx.rel.sep b c _ _ x0 hb hc hxi (hci x0 q))
    have hput:=h4.put s (ev n σ Y)
    obtain⟨ens',clk',g2,g3⟩:=u3
    have t1:=Nf φ b (Fk none (Ec m s (ev n σ Y)))
    have hbd:Bh b (Da c x.h)=some (.mm gg (some s) e sz):=by rw[H7 hbc];exact hb
    have hbel:Bel B w':=hx.rel.below.to u2.os u2.tape u2.output (by rw[u2.size];exact Nat.le_refl _) (fun k hk=>u2.block k (by rintro rfl;exact(hx.rel.gf b _ _ hb hxi).1 hk))
    have r1:Rel B (φ.setS b (Fk none (Ec m s (ev n σ Y)))) (Ch b (.mm (D4 gg s es) none e sz) (Ei b (Da c x.h))) w':=by
      have r0:Rel B φ (Da c x.h) w:=hx.rel.del c
      refine r0.turnO hbd t1 rfl hbel (by rw[u2.size];exact Nat.le_refl _) (fun k _ hki=>u2.block k (by rintro rfl;exact hki hxi)) ?_ ?_
      · refine⟨x0,κ,ens',clk',Ec m s (ev n σ Y),e0,g2,g3,hput,Kd _ _ _,fun t u hu _=>?_,fun t ht=>?_,fun t u hu _=>?_,fun t t' u u' k hu hu' _ _ hk hk'=>?_⟩
        · by_cases hts:t=s
          · subst hts
            rw[Mr] at hu;cases hu
            have hu1:D4 gg t es t=es:=if_pos rfl
            rw[hu1]
            refine⟨vs,?_,a3,a4⟩
            rw[a1]
            exact Lw a2 (fun j hj=>u2.block j (by rintro rfl;exact hvx (by rw[a1];exact hj)))
          · rw[J0 hts] at hu
            obtain⟨us,p1,p2,p3⟩:=h6 t u hu (by simpa using hts)
            refine⟨us,?_,?_,p3⟩
            · simp only[D4,if_neg hts]
              exact Lw p1 (fun j hj=>u2.block j (by rintro rfl;exact h8 t u hu (by simpa using hts) hj))
            · simp only[D4,if_neg hts];exact p2
        · by_cases hts:t=s
          · subst hts;rw[Mr] at ht;cases ht
          · rw[J0 hts] at ht;simp only[D4,if_neg hts];exact h7 t ht
        · by_cases hts:t=s
          · subst hts;rw[Mr] at hu;cases hu;exact hvx
          · rw[J0 hts] at hu;exact h8 t u hu (by simpa using hts)
        · by_cases hts:t=s<;>by_cases hts':t'=s
          · rw[hts,hts']
          · subst hts;rw[Mr] at hu;cases hu
            rw[J0 hts'] at hu'
            exact absurd (hx.rel.sep b c _ _ k hb hc (hin hu' hts' hk') (hci k hk)) hbc
          · subst hts';rw[Mr] at hu';cases hu'
            rw[J0 hts] at hu
            exact absurd (hx.rel.sep b c _ _ k hb hc (hin hu hts hk) (hci k hk')) hbc
          · rw[J0 hts] at hu;rw[J0 hts'] at hu'
            exact h9 t t' u u' k hu hu' (by simpa using hts) (by simpa using hts') hk hk'
      · intro k hk
        have hcase:img φ b (.mm gg (some s) e sz) k∨img φ c (.grow es e sz) k:=by
          rcases hk with hk|⟨l,hl,u,hu,hk⟩
          · exact .inl (.inl hk)
          · rw[Kd] at hl
            obtain⟨t,p1,_⟩:=Sd hput (Option.some.inj hl) hu
            by_cases hts:t=s
            · subst hts;rw[Mr] at p1;cases p1;exact .inr (hci k hk)
            · rw[J0 hts] at p1;exact .inl (hin p1 hts hk)
        rcases hcase with hki|hki
        · have hg:=hx.rel.gf b _ k hb hki
          exact⟨hg.1,by rw[u2.size];exact hg.2.1,hg.2.2,fun c' o1 hc' e1 i=>hc' (hx.rel.sep c' b o1 _ k (Dx e1).2 hb i hki)⟩
        · have hg:=hx.rel.gf c _ k hc hki
          exact⟨hg.1,by rw[u2.size];exact hg.2.1,hg.2.2,fun c' o1 hc' e1 i=>(Dx e1).1 (hx.rel.sep c' c o1 _ k (Dx e1).2 hc i hki)⟩
    refine Lb (Df hx.fr hg) (w':=w') ?_ (next _ _ w' ⟨(Tj t1 hx.fr).put hp M3,r1,fun c' hc'=>⟨(hx.dom c' hc').1,?_⟩,hx.old,hx.new,hx.base⟩)
    · have u1':(Instr.mapUpdate t (.map (some x0)) (S s) (ev n σ Y)).run P w = .ok () w':=u1
      simp[execOp,v1,v2,u1',go_sem]
    · show(if c'=b then _ else _)=_
      rw[if_neg (by rintro rfl;rw[(hx.dom _ hc').1] at e0;cases e0)]
      exact(hx.dom c' hc').2
  · cases hy
theorem X7i {rest : List Oper} {t kt et : TypeId} {X I : Operand} {dst : Option Tmp} {ty : TypeId} {ps : String} {af : Array Edge} {g : Option (Nat × Bool)} {z : Value} {G : List UInt8 → AV} {s : List UInt8} {s' : Fr}
    (hg:Dh ops x.s g=true) (hX:evA x.s X=some (.smap z G)) (hI:evA x.s I=some (.str s)) (ht:P.underlying t=some (.map kt et)) (hk:P.underlying kt=some .string) (hz:∀w,(zeroValue et).run P w = .ok z w)
    (hp:B6 n dst (G s) x.s=some s') (next:SO P n ops rest B F K ⟨s',x.h,x.nx⟩):SO P n ops (⟨dst,.lookup t X I false,ty,ps,af,g⟩::rest) B F K x:=by
  intro φ σ w hx
  have v1:=hx.fr.ev _ _ hX
  have v2:=hx.fr.ev _ _ hI
  simp only[VR] at v1 v2
  obtain⟨x0,es,clk,m,v1,h2,h3,h4⟩:=v1
  have hm:MapIs w x0 (D6 S id m):=⟨es,clk,hx.rel.fro _ _ h2,h3⟩
  refine Db (Df hx.fr hg) (Vx (enc:=S) (val:=id) (k:=s) (m:=m) v1 v2 hm (Tk hk) ht hz) (next _ _ w ⟨hx.fr.put hp ?_,hx.rel,hx.dom,hx.old,hx.new,hx.base⟩)
  have h5:=h4 s
  cases hl:Bx m s with
  |none=>simp only[Option.map_none,Option.getD_none];exact(h5.2 hl).mono (Phi.le_fz φ)
  |some u=>simp only[Option.map_some,Option.getD_some,id];exact(h5.1 u hl).mono (Phi.le_fz φ)
end
end Sv
end
section
open Go Go.RowKit
namespace Sv
section
variable {P : Program} {B : Bas} {w : World} {F F0 : Cx} {n : Nat} {φ : Phi} {σ : Nat → Value} {K : Exit → St → Prop} {x y : St} {ops : Array Oper}
theorem Rel.setO {B : Bas} {w w' : World} {φ : Phi} {h : AH} (r : Rel B φ h w) {b : Nat} {o o' : AO} (hb : Bh b h = some o) (hbel : Bel B w') (hsz : w.heap.size ≤ w'.heap.size)
    (hkeep:∀k,k < w.heap.size→¬img φ b o k→w'.heap[k]? = w.heap[k]?) (ha:At B φ w' b o') (hi:∀k,img φ b o' k→img φ b o k):Rel B φ (Ch b o' h) w':=by
  have h1:Rel B φ (Da b h) w':=(r.del b).frame (fun c o1 e=>SameO.of_le (Phi.le_refl φ) (r.obj c o1 (Dx e).2)) hbel hsz
    (fun c o1 e=>by rw[hkeep c (Fc (r.fro c o1 e)) (fun i=>by rw[(r.gf b o c hb i).2.2] at e;cases e)];exact r.fro c o1 e)
    (fun c o1 k e i=>by
      have e':=Dx e
      exact⟨hkeep k (r.gf c o1 k e'.2 i).2.1 (fun j=>e'.1 (r.sep c b o1 o k e'.2 hb i j)),(r.gf c o1 k e'.2 i).2.2⟩)
  have h2:Rel B φ (Ch b o' (Da b h)) w':=h1.add ha fun k hk=>by
    have hg:=r.gf b o k hb (hi k hk)
    exact⟨hg.1,Nat.lt_of_lt_of_le hg.2.1 hsz,hg.2.2,fun c o1 hc e i=>hc (r.sep c b o1 o k (Dx e).2 hb i (hi k hk))⟩
  refine h2.congr fun c=>?_
  by_cases hc:c=b
  · subst hc;rw[Hl,Hl]
  · rw[G5 _ hc,G5 _ hc,H7 hc]
theorem Mw {rest : List Oper} {t : TypeId} {X I : Operand} {dst : Option Tmp} {ty : TypeId} {ps : String} {af : Array Edge} {g : Option (Nat × Bool)} {b e sz i : Nat} {k : IntKind} {es : List AV} {s' : Fr}
    (hg:Dh ops x.s g=true) (hX:evA x.s X=some (.own b)) (hI:evA x.s I=some (.int k (i:Int))) (hb:Bh b x.h=some (.grow es e sz)) (he:Fa P t=some e) (hs:tsz P e=some sz) (hi:i < es.length)
    (hp:B6 n dst (.op b (i*sz)) x.s=some s') (next:SO P n ops rest B F K ⟨s',x.h,x.nx⟩):SO P n ops (⟨dst,.indexAddr t X I,ty,ps,af,g⟩::rest) B F K x:=by
  intro φ σ w hx
  have v1:=hx.fr.ev _ _ hX
  have v2:=hx.fr.ev _ _ hI
  simp only[VR] at v1 v2
  obtain⟨v,vs,a1,a2,a3,a4⟩:=hx.rel.obj b _ hb
  rw[v1.1] at a1;have a1:=Option.some.inj a1
  rcases a2.2 with⟨rfl,hn⟩|⟨gb,cap,cur,hv,_⟩
  · omega
  · rw[←a1] at hv
    refine Db (Df hx.fr hg) (v:=.pointer (some ⟨gb,i*sz,none⟩)) ?_ (next _ _ w ⟨hx.fr.put hp ?_,hx.rel,hx.dom,hx.old,hx.new,hx.base⟩)
    · have h1:(0:Int)≤(i:Int)∧(i:Int) < (es.length:Int):=by omega
      simp[execOp,Instr.indexAt,asIntOf,hv,v2,run_underlying (D1 he),C3 hs,h1,hi,Q02,go_sem]
    · simp only[VR];exact⟨_,gb,v1.1,by rw[hv];rfl,rfl⟩
noncomputable def Yu (P:Program) (s f:Nat):Option Nat:=match P.underlying s with
  |some (.struct fields)=>match fields.toList[f]? with
    |some fd=>match tsz P fd.type with
      |some (_+1)=>some fd.offset
      |_=>none
    |none=>none
  |_=>none
theorem Vt {rest : List Oper} {s : TypeId} {X : Operand} {f : Nat} {dst : Option Tmp} {ty : TypeId} {ps : String} {af : Array Edge} {g : Option (Nat × Bool)} {b o off : Nat} {s' : Fr}
    (hg:Dh ops x.s g=true) (hX:evA x.s X=some (.op b o)) (hf:Yu P s f=some off)
    (hp:B6 n dst (.op b (o+off)) x.s=some s') (next:SO P n ops rest B F K ⟨s',x.h,x.nx⟩):SO P n ops (⟨dst,.fieldAddr s X f,ty,ps,af,g⟩::rest) B F K x:=by
  intro φ σ w hx
  have v1:=hx.fr.ev _ _ hX
  simp only[VR] at v1
  obtain⟨hd,k,e1,e2,hv⟩:=v1
  unfold Yu at hf
  split at hf
  · rename_i fields hs
    split at hf
    · rename_i fd hfd
      split at hf
      · rename_i m hm
        cases hf
        have hfd':fields[f]? = some fd:=by simpa using hfd
        refine Db (Df hx.fr hg) (v:=.pointer (some ⟨k,o+fd.offset,none⟩)) ?_ (next _ _ w ⟨hx.fr.put hp ?_,hx.rel,hx.dom,hx.old,hx.new,hx.base⟩)
        · simp[execOp,hv,Instr.fieldAt,Instr.sureAddr,fieldPlace,run_underlying hs,hfd',C3 hm,Eg,go_sem]
        · simp only[VR];exact⟨hd,k,e1,e2,rfl⟩
      · cases hf
    · cases hf
  · cases hf
theorem Q1d {vs:List Value} {sz i j:Nat} {v u:Value} (h:∀u∈vs,u.cells.size=sz) (hv:vs[i]? = some v) (hj:v.cells.toList[j]? = some u):(vs.flatMap fun u=>u.cells.toList)[i*sz+j]? = some u:=by
  obtain⟨hi,rfl⟩:=List.getElem?_eq_some_iff.1 hv
  have hj':j < sz:=by have:=(List.getElem?_eq_some_iff.1 hj).1;rw[Array.length_toList,h _ (List.getElem_mem hi)] at this;exact this
  rw[List.flatMap_def,Qg (sz:=sz) (vs.map fun u=>u.cells.toList) i j (fun c hc=>by obtain⟨v,hv,rfl⟩:=List.mem_map.1 hc;rw[Array.length_toList];exact h v hv) (by rw[List.length_map];exact hi) hj']
  rw[show nth (vs.map fun u=>u.cells.toList) i=(vs[i]).cells.toList by simp[nth,hi]]
  exact hj
noncomputable def Yt (P:Program) (t:TypeId) (a:AV) (j:Nat):Option AV:=bif Eo a then none else match Ha P t with
  |some true=>match tsz P t with
    |some m=>bif Nat.ble (j+m) (cellsOf a).length then some (.agg (((cellsOf a).drop j).take m)) else none
    |none=>none
  |some false=>(cellsOf a)[j]?
  |none=>none
theorem Ri {rest : List Oper} {t : TypeId} {X : Operand} {dst : Option Tmp} {ty : TypeId} {ps : String} {af : Array Edge} {g : Option (Nat × Bool)} {b e sz i j o : Nat} {es : List AV} {a r : AV} {s' : Fr}
    (hg:Dh ops x.s g=true) (hX:evA x.s X=some (.op b o)) (ho:o=i*sz+j) (hb:Bh b x.h=some (.grow es e sz)) (ha:es[i]? = some a) (hl:Yt P t a j=some r)
    (hp:B6 n dst r x.s=some s') (next:SO P n ops rest B F K ⟨s',x.h,x.nx⟩):SO P n ops (⟨dst,.load t X,ty,ps,af,g⟩::rest) B F K x:=by
  subst ho
  intro φ σ w hx
  have v1:=hx.fr.ev _ _ hX
  simp only[VR] at v1
  obtain⟨hd,k,e1,e2,hv⟩:=v1
  obtain⟨v,vs,a1,a2,a3,a4⟩:=hx.rel.obj b _ hb
  rw[e1] at a1;cases a1
  obtain⟨u,hu,hua⟩:=a3.get ha
  have hcell:∀q z,u.cells.toList[q]? = some z→w.cell? ⟨k,i*sz+q,none⟩=some z:=fun q z hz=>by
    have:=a2.cells e2 _ _ (Q1d (fun u hu=>(a4 u hu).1) hu hz)
    rwa [Eg,Nat.zero_add] at this
  unfold Yt at hl
  cases hagg:Eo a with
  |true=>rw[hagg] at hl;cases hl
  |false =>
    rw[hagg,cond_false] at hl
    have hc:=hua.cells hagg
    split at hl
    · rename_i hat
      split at hl
      · rename_i m hm
        obtain⟨h3,h4⟩:=Eb (f:=none) hl
        cases h4
        have hle:=Dz h3
        have hlen:=hc.length
        have hus:((u.cells.toList.drop j).take m).length=m:=by simp only[List.length_take,List.length_drop];omega
        have hrun:=run_loadCells_list (P:=P) w ⟨k,i*sz+j,none⟩ ((u.cells.toList.drop j).take m) (fun q z hz=>by
          rw[Eg,Nat.add_assoc]
          refine hcell _ _ ?_
          obtain⟨hlt,_⟩:=List.getElem?_eq_some_iff.1 hz
          rw[List.getElem?_take_of_lt (by simp at hlt;omega),List.getElem?_drop] at hz
          exact hz)
        rw[hus] at hrun
        refine Db (Df hx.fr hg) (v:=.agg ((u.cells.toList.drop j).take m).toArray) ?_ (next _ _ w ⟨hx.fr.put hp ?_,hx.rel,hx.dom,hx.old,hx.new,hx.base⟩)
        · simp only[execOp,hv,Instr.loadAt,Instr.sureAddr,Sem.run_bind,Sem.run_pure,Result.andThen_ok,loadVar,J1 hat,if_true,C3 hm,hrun]
        · simp only[VR];exact⟨_,((hc.drop j).take m).mono (Phi.le_fz φ),rfl⟩
      · cases hl
    · rename_i hat
      obtain⟨z,h1,h2⟩:=hc.get hl
      refine Db (Df hx.fr hg) (v:=z) ?_ (next _ _ w ⟨hx.fr.put hp (h2.mono (Phi.le_fz φ)),hx.rel,hx.dom,hx.old,hx.new,hx.base⟩)
      have:=hcell _ _ h1
      simp[execOp,hv,Instr.loadAt,Instr.sureAddr,loadVar,J1 hat,this,go_sem]
    · cases hl
theorem Q6h {α : Type} {A us D rest Y : List α} {j m : Nat} (hY : Y.length = m) (hj : j + m ≤ us.length) :
    ((A++(us++D))++rest).take (A.length+j)++Y++((A++(us++D))++rest).drop (A.length+j+m)=(A++(((us.take j++Y)++us.drop (j+m))++D))++rest:=by
  rw[List.append_assoc A,List.append_assoc us,List.take_append,List.take_of_length_le (Nat.le_add_right _ _),Nat.add_sub_cancel_left,List.take_append_of_le_length (by omega),
    Nat.add_assoc,List.drop_append,List.drop_of_length_le (Nat.le_add_right _ _),Nat.add_sub_cancel_left,List.drop_append_of_le_length hj]
  simp
noncomputable def Ys (P:Program) (t:TypeId) (a v:AV) (j:Nat):Option AV:=match a,tsz P t with
  |.agg l,some m=>bif Nat.beq (cellsOf v).length m&&!Eo v&&Nat.ble (j+m) l.length&&frzl (cellsOf v)&&ones (cellsOf v) then some (.agg ((l.take j++cellsOf v)++l.drop (j+m))) else none
  |_,_=>none
theorem Q41 {rest : List Oper} {t : TypeId} {X Y : Operand} {dst : Option Tmp} {ty : TypeId} {ps : String} {af : Array Edge} {g : Option (Nat × Bool)} {b e sz i j o : Nat} {es : List AV} {a v r : AV} {s' : Fr}
    (hg:Dh ops x.s g=true) (hX:evA x.s X=some (.op b o)) (ho:o=i*sz+j) (hY:evA x.s Y=some v) (hb:Bh b x.h=some (.grow es e sz)) (ha:es[i]? = some a) (hr:Ys P t a v j=some r)
    (hp:B6 n dst (.tup []) x.s=some s') (next:SO P n ops rest B F K ⟨s',Ch b (.grow (es.set i r) e sz) x.h,x.nx⟩):SO P n ops (⟨dst,.store t X Y,ty,ps,af,g⟩::rest) B F K x:=by
  subst ho
  intro φ σ w hx
  have v1:=hx.fr.ev _ _ hX
  have v2:=hx.fr.ev _ _ hY
  simp only[VR] at v1
  obtain⟨hd,k,e1,e2,hv⟩:=v1
  obtain⟨v0,vs,a1,a2,a3,a4⟩:=hx.rel.obj b _ hb
  rw[e1] at a1;cases a1
  obtain⟨u,hu,hua⟩:=a3.get ha
  unfold Ys at hr
  split at hr
  · rename_i l m hm
    obtain⟨hc,h4⟩:=Eb (f:=none) hr
    cases h4
    simp only[Bool.and_eq_true,Bool.not_eq_true'] at hc
    obtain⟨⟨⟨⟨c1,c2⟩,c3⟩,c4⟩,c5⟩:=hc
    have c3':=Dz c3
    have hcells:=v2.cells c2
    have hm':=Nat.eq_of_beq_eq_true c1
    have hlen:(ev n σ Y).cells.size=m:=by have:=hcells.length;simp only[Array.length_toList] at this;omega
    simp only[VR] at hua
    obtain⟨us,h5,rfl⟩:=hua
    obtain⟨hi,hui⟩:=List.getElem?_eq_some_iff.1 hu
    have hmem:Value.agg us.toArray∈vs:=by rw[←hui];exact List.getElem_mem hi
    have hus:us.length=sz:=by have:=(a4 _ hmem).1;simpa [Value.cells] using this
    have hl5:=h5.length
    have hones:=hcells.ones c5
    rcases a2.2 with⟨rfl,hn⟩|⟨gb,cap,cur,rfl,g1,g2,g3,g4,g5,g6⟩
    · simp[Value.ownBlock] at e2
    · have:gb=k:=by simpa [Value.ownBlock] using e2
      subst this
      have hne:=a3.length
      have hcap:(i+1)*sz≤cap*sz:=Nat.mul_le_mul_right sz (by omega)
      have e3:(i+1)*sz=i*sz+sz:=by rw[Nat.add_mul,Nat.one_mul]
      have hyl:(ev n σ Y).cells.toList.length=m:=by rw[Array.length_toList];exact hlen
      have hrun:=run_storeCells_at P gb (i*sz+j) e (ev n σ Y).cells.toList 0 cur w g2 (by omega) hones
      rw[hyl,Nat.add_zero] at hrun
      have hst:(Instr.storeAt t (.pointer (some ⟨gb,i*sz+j,none⟩)) (ev n σ Y)).run P w=(storeCells ⟨gb,i*sz+j,none⟩ (ev n σ Y).cells.toList).run P w:=by
        simp only[Instr.storeAt,Instr.sureAddr,Sem.run_bind,Sem.run_pure,Result.andThen_ok,storeVar,C3 hm]
        rw[if_neg (by simp[hlen])]
      obtain⟨C,hC⟩:∃C,cur.toList.take (i*sz+j)++(ev n σ Y).cells.toList++cur.toList.drop (i*sz+j+m)=C:=⟨_,rfl⟩
      rw[hC] at hrun
      have hrun':=hst.trans hrun
      have hnew:VR φ.fz (.agg ((l.take j++cellsOf v)++l.drop (j+m))) (.agg (((us.take j++(ev n σ Y).cells.toList)++us.drop (j+m))).toArray):=by
        simp only[VR];exact⟨_,((h5.take j).append (VRl.fz hcells c4)).append (h5.drop _),rfl⟩
      have hnl:((us.take j++(ev n σ Y).cells.toList)++us.drop (j+m)).length=sz:=by simp only[List.length_append,List.length_take,List.length_drop];omega
      have hsz:∀u∈vs,u.cells.size=sz:=fun u hu=>(a4 u hu).1
      have hiv:i < vs.length:=hi
      have hlv:es.length=vs.length:=a3.length.symm
      have hfl:=Iz hsz
      have hvs:vs=vs.take i++vs[i]::vs.drop (i+1):=by
        rw[List.getElem_cons_drop,List.take_append_drop]
      have hA:((vs.take i).flatMap fun u=>u.cells.toList).length=i*sz:=by
        rw[Iz (fun u hu=>hsz u (List.mem_of_mem_take hu)),List.length_take,Nat.min_eq_left (by omega)]
      have hthree:(vs.flatMap fun u=>u.cells.toList)=((vs.take i).flatMap fun u=>u.cells.toList)++(us++(vs.drop (i+1)).flatMap fun u=>u.cells.toList):=by
        conv=>lhs;rw[hvs]
        rw[List.flatMap_append,List.flatMap_cons,hui]
        simp[Value.cells]
      have hcur:cur.toList=(((vs.take i).flatMap fun u=>u.cells.toList)++(us++(vs.drop (i+1)).flatMap fun u=>u.cells.toList))++cur.toList.drop (es.length*sz):=by
        rw[←hthree,←g6,List.take_append_drop]
      have hCC:C=(((vs.take i).flatMap fun u=>u.cells.toList)++((((us.take j++(ev n σ Y).cells.toList)++us.drop (j+m)))++(vs.drop (i+1)).flatMap fun u=>u.cells.toList))++cur.toList.drop (es.length*sz):=by
        rw[←hC]
        conv=>lhs;rw[hcur,←hA]
        exact Q6h hyl (by omega)
      have hset:((vs.set i (.agg (((us.take j++(ev n σ Y).cells.toList)++us.drop (j+m))).toArray)).flatMap fun u=>u.cells.toList)=((vs.take i).flatMap fun u=>u.cells.toList)++((((us.take j++(ev n σ Y).cells.toList)++us.drop (j+m)))++(vs.drop (i+1)).flatMap fun u=>u.cells.toList):=by
        rw[List.set_eq_take_append_cons_drop,if_pos hiv,List.flatMap_append,List.flatMap_cons]
        simp[Value.cells]
      have hclen:C.length=cap*sz:=by
        have:cur.toList.length=cap*sz:=by rw[Array.length_toList];exact g5
        rw[←hC];simp only[List.length_append,List.length_take,List.length_drop];omega
      have hat:At B φ (w.setRow gb C.toArray) b (.grow (es.set i (.agg ((l.take j++cellsOf v)++l.drop (j+m)))) e sz):=by
        refine⟨_,vs.set i (.agg (((us.take j++(ev n σ Y).cells.toList)++us.drop (j+m))).toArray),e1,?_,VRl.set i a3 hnew,fun z hz=>?_⟩
        · rw[List.length_set]
          refine⟨?_,.inr ⟨gb,cap,C.toArray,rfl,Nat.zero_le _,setRow_heap w gb cur _ e _ g2,g3,g4,by simpa using hclen,?_⟩⟩
          · rw[Iz (sz:=sz) (fun z hz=>?_),List.length_set,hlv]
            rcases List.mem_or_eq_of_mem_set hz with hz|rfl
            · exact hsz z hz
            · simpa [Value.cells] using hnl
          · rw[hset,List.toList_toArray,hCC]
            refine List.take_left' ?_
            have:=congrArg List.length hset
            rw[←this,Iz (sz:=sz) (fun z hz=>?_),List.length_set,hlv]
            rcases List.mem_or_eq_of_mem_set hz with hz|rfl
            · exact hsz z hz
            · simpa [Value.cells] using hnl
        · rcases List.mem_or_eq_of_mem_set hz with hz|rfl
          · exact a4 z hz
          · refine⟨by simpa [Value.cells] using hnl,fun c hc=>?_⟩
            simp only[Value.cells,List.toList_toArray,List.mem_append] at hc
            rcases hc with (hc|hc)|hc
            · exact(a4 _ hmem).2 c (by simp only[Value.cells,List.toList_toArray];exact List.mem_of_mem_take hc)
            · exact hones c hc
            · exact(a4 _ hmem).2 c (by simp only[Value.cells,List.toList_toArray];exact List.mem_of_mem_drop hc)
      have hgi:img φ b (.grow es e sz) gb:=by simp only[img,e1,Option.bind_some];rfl
      have hrel:Rel B φ (Ch b (.grow (es.set i (.agg ((l.take j++cellsOf v)++l.drop (j+m)))) e sz) x.h) (w.setRow gb C.toArray):=by
        refine hx.rel.setO hb (hx.rel.below.to rfl rfl rfl ?_ fun q hq=>setRow_other w gb q _ ?_) ?_ (fun q _ hq=>setRow_other w gb q _ ?_) hat (fun k hk=>hk)
        · simp
        · rintro rfl;exact(hx.rel.gf b _ q hb hgi).1 hq
        · simp
        · rintro rfl;exact hq hgi
      refine Lb (Df hx.fr hg) (w':=w.setRow gb C.toArray) ?_ (next φ _ _ ⟨hx.fr.put hp M3,hrel,hx.dom,hx.old,hx.new,hx.base⟩)
      have hrun2:(Instr.storeAt t (ev n σ X) (ev n σ Y)).run P w = .ok () (w.setRow gb C.toArray):=by rw[hv];exact hrun'
      exact W6 hrun2
  · cases hr
noncomputable def R1 (P:Program) (b j:Nat) (x:St):Option St:=match Bh b x.h with
  |some (.row cs e)=>match cs[j]? with
    |some a=>match Di P x.h a with
      |some (r,h1)=>match Bh b h1 with
        |some (.row cs' e')=>bif Nat.beq e e'&&Nat.beq cs.length cs'.length then some ⟨x.s,Ch b (.row (cs'.set j r) e) h1,x.nx⟩ else none
        |_=>none
      |none=>none
    |none=>none
  |_=>none
theorem Holds.stillC {b j:Nat} (h:Holds B F n x φ σ w) (k:R1 P b j x=some y):∃φ',Holds B F n y φ' σ w:=by
  unfold R1 at k
  split at k
  · rename_i cs e hb
    split at k
    · rename_i a ha
      split at k
      · rename_i r h1 hr
        split at k
        · rename_i cs' e' hb'
          obtain⟨q,k⟩:=Dn k
          cases k
          simp only[Bool.and_eq_true] at q
          have:=Nat.eq_of_beq_eq_true q.1;subst this
          obtain⟨x0,κ,vs,a1,a2,a3⟩:=h.rel.obj b _ hb
          obtain⟨v,hv,hva⟩:=a3.get ha
          obtain⟨F',f1,f2,f3,f4⟩:=Ty hr B φ w _ h.rel (VRl.single hva)
          obtain⟨v',hv',f5⟩:=f4.single_inv
          cases hv'
          obtain⟨x1,κ1,vs1,b1,b2,b3⟩:=f3.obj b _ hb'
          rw[show(Phi.m ⟨φ.m,φ.s,F'⟩) b=φ b from rfl,a1] at b1;cases b1
          rw[a2] at b2;cases b2
          have hat:At B ⟨φ.m,φ.s,F'⟩ w b (.row (cs'.set j r) e):=⟨x0,κ,vs,a1,a2,b3.put hv (f5.mono (Phi.le_fz ⟨φ.m,φ.s,F'⟩))⟩
          exact⟨⟨φ.m,φ.s,F'⟩,fun t a e=>(h.fr t a e).mono (leF f1),f3.setO hb' f3.below (Nat.le_refl _) (fun _ _ _=>rfl) hat (fun k hk=>hk),h.dom,fun b o e=>f1 _ _ (h.old b o e),fun b o e=>(f2 b o e).elim (h.new b o) .inr,h.base⟩
        · cases k
      · cases k
    · cases k
  · cases k
theorem J6 {l:List Oper} (b j:Nat) (k:R1 P b j x=some y) (h:SO P n ops l B F K y):SO P n ops l B F K x:=fun φ σ w hx=>by
  obtain⟨φ',hh⟩:=hx.stillC k
  exact h _ _ _ hh
end
end Sv
end
section
open Go Go.RowKit
namespace Sv
section
variable {P : Program} {B : Bas} {w : World} {F F0 : Cx} {n : Nat} {φ : Phi} {σ : Nat → Value} {K : Exit → St → Prop} {KK : St → Prop} {x y : St} {E : Bool} {ops : Array Oper} {fuel : Nat} {listed : Array Bool}
theorem X66 {o:Oper} {Q Q':Exit→(Nat→Value)→World→Prop} (hn:∀e σ w,Q e σ w→e = .normal) (hq:∀e σ w,Q e σ w→Q' e σ w) (h:WO P n ops [o] Q σ w):WO P n ops [o] Q' σ w:=by
  unfold WO wpList at h ⊢
  have ho:¬LetsOut (F8 n Q):=by
    rintro⟨a,w,σ',_,h⟩;have:=hn _ _ _ h;cases this
  have hk:∀a w',wpList P ops (F8 n Q) [] a w'→wpList P ops (F8 n Q') [] a w':=by
    rintro a w' ⟨σ',rfl,h⟩;exact⟨σ',rfl,hq _ _ _ h⟩
  split at h
  · rename_i hw
    rw[if_pos hw]
    rcases h with h|⟨_,h⟩
    · exact .inl (Rn hk (fun c a w hc=>by obtain⟨_,_,hc⟩:=hc;have:=hn _ _ _ hc;cases this) ho h)
    · exact absurd h ho
  · rename_i hw
    rw[if_neg hw];exact hk _ _ h
theorem Dq (i:Nat) {o:Oper} (hi:ops[i]? = some o) (h:SO P n ops [o] B F0 (fun e y=>e = .normal∧SG P n ops B F KK F0 false fuel (listed.setIfInBounds i true) y) x):SN P n ops B F KK F0 E fuel listed i x:=by
  intro φ σ w hx hE
  refine⟨o,hi,X66 (by rintro e σ' w' ⟨y,φ',hy,rfl,hs⟩;rfl) ?_ (h φ σ w hx)⟩
  rintro e σ' w' ⟨y,φ',hy,rfl,hs⟩
  unfold SG at hs
  exact⟨rfl,hy.hold,hs φ' σ' w' hy (fun q=>by cases q)⟩
theorem Vu {rest : List Oper} {f : FuncId} {ar : Array Operand} {ts : Array TypeId} {ty : TypeId} {ps : String} {dst : Option Tmp} {af : Array Edge} {g : Option (Nat × Bool)} {al al' : List AV} {h' : AH} {r : AV} {s' : Fr} {q : Bool}
    (hg:Hk ops x.s g=some q) (he:Au P f) (ha:Ea (Hu ar.toList (evA x.s)) ar.toList=some al) (hn:q=true→Bn (Em (evA x.s) ar.toList)) (hz:frzVl P x.h al=some (al',h')) (hf:q=true→FnV P f al' r) (hr:Lu r=true) (hp:B6 n dst (.cond q r) x.s=some s')
    (next:SO P n ops rest B F K ⟨s',x.h,x.nx⟩):SO P n ops (⟨dst,.call { callee:=.value (.func f),args:=ar,argTypes:=ts },ty,ps,af,g⟩::rest) B F K x:=by
  intro φ σ w hx
  have hgk:=Ky hx.fr hg
  cases q with
  |false=>exact Fd hgk (next φ _ w ⟨hx.fr.put hp Jb,hx.rel,hx.dom,hx.old,hx.new,hx.base⟩)
  |true =>
    obtain⟨F',f1,f2,f3,f4⟩:=frzVl_ok hz B φ w _ hx.rel (Fq (Lj hx.fr (hn rfl)) ha)
    refine Gc hgk he (hf rfl F' w _ f3.fro f4) ?_
    rintro v w' ⟨hb,F'',h1,h2,h3,h4⟩
    have hh:Holds B F n x φ σ w':=hx.called hb (fun _ _ e=>e) (fun b o e=>(hb.block b (Fc (hx.rel.fro b o e))).trans (hx.rel.fro b o e)) (fun _ _ e => .inl e)
    exact next _ _ _ ⟨hh.fr.put hp (Lc (Pl hr h4)),hh.rel,hh.dom,hh.old,hh.new,hh.base⟩
theorem Rj {rest : List Oper} {t t' : TypeId} {X : Operand} {dst : Option Tmp} {ty : TypeId} {ps : String} {af : Array Edge} {g : Option (Nat × Bool)} {sz m e : Nat} {G : Nat → AV} {nl : Operand}
    (hg:Dh ops x.s g=true) (hX:evA x.s X=some (.row sz m G)) (hN:evA x.s nl=some .nils) (ht:Fa P t=some e)
    (hp:∀q:Bool,∃s',B6 n dst (.bool q) x.s=some s'∧((q=true→m=0)→SO P n ops rest B F K ⟨s',x.h,x.nx⟩)):SO P n ops (⟨dst,.binOp .eql t X nl t',ty,ps,af,g⟩::rest) B F K x:=by
  intro φ σ w hx
  have v1:=hx.fr.ev _ _ hX
  have v2:=hx.fr.ev _ _ hN
  simp only[VR] at v1 v2
  obtain⟨u,hu,hr⟩:=v1
  have hu':=D1 ht
  have run:∀(a:Option Addr) (l c:Nat),ev n σ X = .slice a l c→(execOp (ev n σ) ⟨dst,.binOp .eql t X nl t',ty,ps,af,g⟩).run P w = .ok (.value (.bool a.isNone)) w:=by
    intro a l c hv
    have heq:∀w,(Op.equal t (.slice a l c) (.slice none 0 0)).run P w = .ok a.isNone w:=by
      intro w
      unfold Op.equal Op.maxDepth Op.equalIn
      cases a<;>simp[run_underlying hu',go_sem]
    have hbin:∀w,(binOp .eql t (.slice a l c) (.slice none 0 0)).run P w = .ok (.bool a.isNone) w:=fun w=>by simp[binOp,heq,go_sem]
    simp only[execOp,hv,v2,Sem.run_bind,N5 w (op:=.eql) (t:=t) (x:=X) (y:=nl) (a:=.slice a l c) (b:=.slice none 0 0) (by simp) (by simp),Result.andThen_ok,hbin,Sem.run_pure]
  rcases hr with⟨h0,hv|⟨a,c,hv⟩⟩|⟨b,o,c,hv,_⟩
  · obtain⟨s',h1,h2⟩:=hp true
    exact Db (Df hx.fr hg) (run none 0 0 hv) (h2 (fun _=>h0) φ _ w ⟨hx.fr.put h1 (by simp only[VR];rfl),hx.rel,hx.dom,hx.old,hx.new,hx.base⟩)
  · obtain⟨s',h1,h2⟩:=hp false
    exact Db (Df hx.fr hg) (run (some a) 0 c hv) (h2 (fun e=>by cases e) φ _ w ⟨hx.fr.put h1 (by simp only[VR];rfl),hx.rel,hx.dom,hx.old,hx.new,hx.base⟩)
  · obtain⟨s',h1,h2⟩:=hp false
    exact Db (Df hx.fr hg) (run (some ⟨b,o,none⟩) m c hv) (h2 (fun e=>by cases e) φ _ w ⟨hx.fr.put h1 (by simp only[VR];rfl),hx.rel,hx.dom,hx.old,hx.new,hx.base⟩)
end
end Sv
end
section
open Go Go.RowKit
namespace Sv
section
variable {P : Program} {B : Bas} {w : World} {F F0 : Cx} {n : Nat} {φ : Phi} {σ : Nat → Value} {K : Exit → St → Prop} {x y : St} {ops : Array Oper}
def X8i (s:Fr) (t f:Nat) (cap:List AV):Prop:=Cl t s=some (.fn f [] cap)∨∃q,Cl t s=some (.cond q (.fn f [] cap))∧q=true
theorem X7l {rest : List Oper} {t : Nat} {f : FuncId} {cap : List AV} {ar : Array Operand} {ts : Array TypeId} {ty : TypeId} {ps : String} {dst : Option Tmp} {af : Array Edge} {g : Option (Nat × Bool)} {al : List AV} {r : AV} {s' : Fr} {q : Bool}
    (hg:Hk ops x.s g=some q) (hc:q=true→X8i x.s t f cap) (he:Au P f) (ha:Ea (Hu ar.toList (evA x.s)) ar.toList=some al) (hn:q=true→Bn (Em (evA x.s) ar.toList)) (hz:frzl (al++cap)=true) (hf:q=true→FnV P f (al++cap) r) (hp:B6 n dst (.cond q r) x.s=some s')
    (next:SO P n ops rest B F K ⟨s',x.h,x.nx⟩):SO P n ops (⟨dst,.call { callee:=.value (.tmp t),args:=ar,argTypes:=ts },ty,ps,af,g⟩::rest) B F K x:=by
  intro φ σ w hx
  have hgk:=Ky hx.fr hg
  cases q with
  |false=>exact Fd hgk (next φ _ w ⟨hx.fr.put hp Jb,hx.rel,hx.dom,hx.old,hx.new,hx.base⟩)
  |true =>
    have hfn:VR φ (.fn f [] cap) (sl n σ t):=by
      rcases hc rfl with h|⟨q',h,hq⟩
      · exact hx.fr _ _ h
      · exact(hx.fr _ _ h).condT hq
    simp only[VR] at hfn
    obtain⟨vf,vc,h1,h2,h3⟩:=hfn
    have:=h1.nil_inv;subst this
    have hv:=((Fq (Lj hx.fr (hn rfl)) ha).append h2).fz hz
    refine Oo (x:=.tmp t) (cap:=vc.toArray) hgk h3 he (hf rfl φ.f w (List.map (ev n σ) ar.toList++vc) hx.rel.fro hv) ?_
    rintro v w' ⟨hb,F',h1,h2,h3,h4⟩
    have hh:=hx.called hb h1 h2 h3
    exact next _ _ _ ⟨hh.fr.put hp (Lc (h4.mono (Phi.le_fz ⟨φ.m,φ.s,F'⟩))),hh.rel,hh.dom,hh.old,hh.new,hh.base⟩
end
end Sv
end
section
open Go Go.RowKit
namespace Sv
theorem Imp.fp {a b:AV} (h:Imp a b):Imp (.fp a) (.fp b):=fun φ v k=>by
  simp only[VR] at k ⊢
  obtain⟨c,o,u,e,k1,r⟩:=k
  exact⟨c,o,u,e,h _ _ k1,r⟩
theorem Imp.aggs {l m:List AV} (h:∀φ vs,VRl φ l vs→VRl φ m vs):Imp (.agg l) (.agg m):=fun φ v k=>by
  simp only[VR] at k ⊢
  obtain⟨vs,k1,e⟩:=k
  exact⟨vs,h _ _ k1,e⟩
theorem Imp.tups {l m:List AV} (h:∀φ vs,VRl φ l vs→VRl φ m vs):Imp (.tup l) (.tup m):=fun φ v k=>by
  simp only[VR] at k ⊢
  obtain⟨vs,k1,e⟩:=k
  exact⟨vs,h _ _ k1,e⟩
theorem Q3 (q:Bool) {G:Prop} (h1:q=true→G) (h0:q=false→G):G:=match q,h1,h0 with
  |true,h1,_=>h1 rfl
  |false,_,h0=>h0 rfl
section
variable {P : Program} {B : Bas} {F F0 : Cx} {n : Nat} {KK : St → Prop} {x x' : St} {E E' : Bool} {ops : Array Oper} {fuel fuel' : Nat} {listed listed' : Array Bool}
theorem Cn (E':Bool) (fuel':Nat) (listed':Array Bool) (x':St) (h:SG P n ops B F KK F0 E' fuel' listed' x') (k:SG P n ops B F KK F0 E' fuel' listed' x'→SG P n ops B F KK F0 E fuel listed x):SG P n ops B F KK F0 E fuel listed x:=k h
theorem X7u (m:SG P n ops B F KK F0 E' fuel' listed' x') (hE:E'=E) (hf:fuel'=fuel) (hl:listed'=listed) (hx:x'=x):SG P n ops B F KK F0 E fuel listed x:=by
  subst hE;subst hf;subst hl;subst hx;exact m
end
end Sv
end
section
open Go Go.RowKit
namespace Sv
def Q0g (l:Nat) (J:Act→World→Prop) (Q:Exit→Act→World→Prop):Exit→Act→World→Prop
  |.goto l',a,w=>l'=l∧J a w
  |e,a,w=>Q e a w
theorem Q5n {P : Program} {Q : Exit → Act → World → Prop} {c rest : Code} {a : Act} {w : World} (l : Nat) (hf : findLabel c l = some rest) (I : Nat → Act → World → Prop)
    (first:c.wp P (Q0g l (fun a w=>∃g,I g a w) Q) a w)
    (pass:∀g a w,I g a w→rest.wp P (Q0g l (fun a w=>∃g',g' < g∧I g' a w) Q) a w):(Code.scope c).wp P Q a w:=by
  intro b k cs
  have hg:gotoIn l (.inScope c::k)=some (.code rest :: .inScope c::k):=by simp[gotoIn,hf]
  have key:∀g a w,I g a w→∃e a' w',Q e a' w'∧Arrives P (lone (b.at a (.code rest :: .inScope c::k)) cs w) b k cs e a' w':=by
    intro g
    induction g using Nat.strongRecOn with
    |_ g ih =>
      intro a w hI
      obtain⟨e,a₁,w₁,hq,harr⟩:=pass g a w hI b (.inScope c::k) cs
      cases e with
      |normal=>exact⟨.normal,a₁,w₁,hq,Steps.trans harr (.one step_inScope)⟩
      |exit id=>exact⟨.exit id,a₁,w₁,hq,fun k' hk=>harr k' (by simp[exitTo,hk])⟩
      |goto l' =>
        obtain⟨rfl,g',hlt,hI'⟩:=hq
        obtain⟨e₂,a₂,w₂,hq₂,harr₂⟩:=ih g' hlt a₁ w₁ hI'
        exact⟨e₂,a₂,w₂,hq₂,.of_steps (harr _ hg) harr₂⟩
      |ret=>exact⟨_,a₁,w₁,hq,harr⟩
      |panic ch=>exact⟨_,a₁,w₁,hq,harr⟩
      |outgrown=>exact⟨_,a₁,w₁,hq,harr⟩
  obtain⟨e,a₁,w₁,hq,harr⟩:=first b (.inScope c::k) cs
  cases e with
  |normal=>exact⟨.normal,a₁,w₁,hq,.of_steps (.one step_scope) (Steps.trans harr (.one step_inScope))⟩
  |exit id=>exact⟨.exit id,a₁,w₁,hq,.of_steps (.one step_scope) (fun k' hk=>harr k' (by simp[exitTo,hk]))⟩
  |goto l' =>
    obtain⟨rfl,g,hI⟩:=hq
    obtain⟨e₂,a₂,w₂,hq₂,harr₂⟩:=key g a₁ w₁ hI
    exact⟨e₂,a₂,w₂,hq₂,.of_steps (.one step_scope) (.of_steps (harr _ hg) harr₂)⟩
  |ret=>exact⟨_,a₁,w₁,hq,.of_steps (.one step_scope) harr⟩
  |panic ch=>exact⟨_,a₁,w₁,hq,.of_steps (.one step_scope) harr⟩
  |outgrown=>exact⟨_,a₁,w₁,hq,.of_steps (.one step_scope) harr⟩
def P8 (l:Nat) (J:St→Prop) (K:Exit→St→Prop):Exit→St→Prop
  |.goto l',x=>l'=l∧J x
  |e,x=>K e x
section
variable {P : Program} {B : Bas} {F : Cx} {n : Nat} {K : Exit → St → Prop} {x : St}
theorem Mv {l:Nat} (h:K (.goto l) x):SW P n (.goto l) B F K x:=fun φ σ w hx=>X6x ⟨x,φ,hx,h⟩
theorem X7d {c:Code} {K K':Exit→St→Prop} (h:SW P n c B F K x) (m:∀e y,K e y→K' e y):SW P n c B F K' x:=fun φ σ w hx=>Hr (h φ σ w hx) fun e σ' w' ⟨y,φ',h1,h2⟩=>⟨y,φ',h1,m e y h2⟩
theorem Vp {c c2 : Code} (l : Nat) (hf : findLabel c l = some (.seq .skip c2)) (I : Nat → St → Prop) (ts : List Nat) (m : Nat) (hlo : F.lo ≤ m)
    (first:(∀g y,I g y→SW P n c2 B F (P8 l (fun z=>∃z',gcS ts m z=some z'∧∃g,I g z') K) y)→SW P n c B F (P8 l (fun z=>∃z',gcS ts m z=some z'∧∃g,I g z') K) x)
    (round:∀g y,I g y→SW P n c2 B F (P8 l (fun z=>∃z',gcS ts m z=some z'∧∃g',g' < g∧I g' z') K) y):SW P n (.scope c) B F K x:=by
  have hr:∀g y,I g y→SW P n c2 B F (P8 l (fun z=>∃z',gcS ts m z=some z'∧∃g,I g z') K) y:=fun g y hI=>X7d (round g y hI) fun e z hz=>by
    cases e with
    |goto l'=>obtain⟨e,z',h1,g',_,h2⟩:=hz;exact⟨e,z',h1,g',h2⟩
    |_=>exact hz
  intro φ σ w hx
  unfold W
  refine Q5n l hf (fun g a w=>∃σ,a=mk n σ∧∃y φ,Holds B F n y φ σ w∧I g y) ?_ ?_
  · have h1:=first hr φ σ w hx
    unfold W at h1
    refine wp_mono h1 ?_
    rintro e a w' ⟨σ',rfl,y,φ',hy,hk⟩
    cases e with
    |goto l'=>obtain⟨e,z',hz,g,hI⟩:=hk;exact⟨e,g,σ',rfl,z',_,hy.gc hlo hz,hI⟩
    |_=>exact⟨σ',rfl,y,φ',hy,hk⟩
  · rintro g a w ⟨σ,rfl,y,φ,hy,hI⟩
    have h1:=Ad (Ai (round g y hI)) φ σ w hy
    unfold W at h1
    refine wp_mono h1 ?_
    rintro e a w' ⟨σ',rfl,y',φ',hy',hk⟩
    cases e with
    |goto l'=>obtain⟨e,z',hz,g',hlt,hI'⟩:=hk;exact⟨e,g',hlt,σ',rfl,z',_,hy'.gc hlo hz,hI'⟩
    |_=>exact⟨σ',rfl,y',φ',hy',hk⟩
end
end Sv
end
section
open Go Go.RowKit
namespace Sv
noncomputable def Pm:List AV→Bool
  |[]=>true
  |a::l=>Lu a&&Pm l
noncomputable def Xu:AV→Bool
  |.tup l=>Pm l
  |a=>Lu a
theorem Xv:∀{l:List AV} {φ φ':Phi} {vs:List Value},Pm l=true→VRl φ l vs→VRl φ' l vs
  |[],_,_,_,_,k=>by rw[k.nil_inv];exact .nil
  |a::l,_,_,_,h,k=>by
    simp only[Pm,Bool.and_eq_true] at h
    obtain⟨v,vs',rfl,h1,h2⟩:=k.cons_inv
    exact .cons (Pl h.1 h1) (Xv h.2 h2)
theorem Q77 {φ φ':Phi} {a:AV} {v:Value} (h:Xu a=true) (k:VR φ a v):VR φ' a v:=by
  cases a
  case tup l =>
    simp only[VR] at k ⊢
    obtain⟨vs,k1,e⟩:=k
    exact⟨vs,Xv h k1,e⟩
  all_goals exact Pl h k
section
variable {P : Program} {B : Bas} {F : Cx} {n : Nat} {K : Exit → St → Prop} {x : St} {ops : Array Oper}
theorem Q44 {rest : List Oper} {t : Nat} {f : FuncId} {cap : List AV} {ar : Array Operand} {ts : Array TypeId} {ty : TypeId} {ps : String} {dst : Option Tmp} {af : Array Edge} {g : Option (Nat × Bool)} {al al' : List AV} {h' : AH} {r : AV} {s' : Fr}
    (hg:Dh ops x.s g=true) (hc:Cl t x.s=some (.fn f [] cap)) (he:Au P f) (ha:Ea (evA x.s) ar.toList=some al) (hz:frzVl P x.h (al++cap)=some (al',h')) (hf:FnV P f al' r) (hr:Xu r=true) (hp:B6 n dst r x.s=some s')
    (next:SO P n ops rest B F K ⟨s',x.h,x.nx⟩):SO P n ops (⟨dst,.call { callee:=.value (.tmp t),args:=ar,argTypes:=ts },ty,ps,af,g⟩::rest) B F K x:=by
  intro φ σ w hx
  have hfn:=hx.fr _ _ hc
  simp only[VR] at hfn
  obtain⟨vf,vc,h1,h2,h3⟩:=hfn
  have:=h1.nil_inv;subst this
  obtain⟨F',f1,f2,f3,f4⟩:=frzVl_ok hz B φ w _ hx.rel ((Fq hx.fr.ev ha).append h2)
  refine Oo (x:=.tmp t) (cap:=vc.toArray) (Df hx.fr hg) h3 he (by simpa using hf F' w _ f3.fro f4) ?_
  rintro v w' ⟨hb,F'',h1,h2,h3,h4⟩
  have hh:Holds B F n x φ σ w':=hx.called hb (fun _ _ e=>e) (fun b o e=>(hb.block b (Fc (hx.rel.fro b o e))).trans (hx.rel.fro b o e)) (fun _ _ e => .inl e)
  exact next _ _ _ ⟨hh.fr.put hp (Q77 hr h4),hh.rel,hh.dom,hh.old,hh.new,hh.base⟩
end
end Sv
end
section
open Go Go.RowKit
namespace Sv
section
variable {P : Program} {n : Nat}
def HasI (s:Fr) (X:Operand) (k:IntKind) (a:Int):Prop:=evA s X=some (.int k a)∨∃q,evA s X=some (.cond q (.int k a))∧q=true
theorem HasI.get {φ:Phi} {σ:Nat→Value} {s:Fr} {X:Operand} {k:IntKind} {a:Int} (h:HasI s X k a) (hf:FRel φ n s σ):ev n σ X = .int k a:=by
  rcases h with h|⟨q,h,hq⟩
  · have:=hf.ev _ _ h;simpa only [VR] using this
  · have:=hf.ev _ _ h
    simp only[VR] at this
    exact this.1 hq
theorem Og {dst : Option Tmp} {X Y : Operand} {t t' ty : TypeId} {ps : String} {af : Array Edge} {g : Option (Nat × Bool)} {s : Fr} {k : IntKind} {a b : Int} (hx : HasI s X k a) (hy : HasI s Y k b) (φ : Phi) (σ : Nat → Value) (h : FRel φ n s σ) :
    ∃v,(∀w,(execOp (ev n σ) ⟨dst,.binOp .and t X Y t',ty,ps,af,g⟩).run P w = .ok (.value v) w)∧VR φ (.int k (Go.bits .and k a b)) v:=by
  have h1:=hx.get h
  have h2:=hy.get h
  exact⟨.int k (Go.bits .and k a b),fun w=>by simp[execOp,h1,h2,go_sem],by simp only[VR]⟩
end
end Sv
end
section
open Go Go.RowKit
namespace Sv
structure Hint where
  i:Nat
  f:Nat
  al:List AV
  r:AV
  c:Bool
  q:Bool
def HOk (P:Program):List Hint→Prop
  |[]=>True
  |h::l=>(h.q=true→Au P h.f∧FnV P h.f h.al h.r)∧HOk P l
theorem hk0 {P:Program}:HOk P []:=trivial
theorem hk {P:Program} (i:Nat) {f:Nat} {al:List AV} {r:AV} {l:List Hint} (he:Au P f) (hf:FnV P f al r) (h:HOk P l):HOk P (⟨i,f,al,r,false,true⟩::l):=⟨fun _=>⟨he,hf⟩,h⟩
theorem hkg {P:Program} (i:Nat) (q:Bool) {f:Nat} {al:List AV} {r:AV} {l:List Hint} (he:Au P f) (hf:q=true→FnV P f al r) (h:HOk P l):HOk P (⟨i,f,al,r,true,q⟩::l):=⟨fun k=>⟨he,hf k⟩,h⟩
noncomputable def N3:List Hint→Nat→Option Hint
  |[],_=>none
  |h::l,i=>bif Nat.beq h.i i then some h else N3 l i
theorem T3 {P:Program}:∀{l:List Hint} {i:Nat} {h:Hint},HOk P l→N3 l i=some h→h.q=true→Au P h.f∧FnV P h.f h.al h.r
  |[],_,_,_,e,_=>by cases e
  |a::l,i,h,k,e,q=>by
    unfold N3 at e
    cases hb:Nat.beq a.i i with
    |true=>rw[hb] at e;cases e;exact k.1 q
    |false=>rw[hb] at e;exact T3 k.2 e q
def COk:List (Nat × Prop)→Prop
  |[]=>True
  |c::l=>c.2∧COk l
theorem c0:COk []:=trivial
theorem cc (i:Nat) {p:Prop} {l:List (Nat × Prop)} (h:p) (k:COk l):COk ((i,p)::l):=⟨h,k⟩
noncomputable def Hm:List (Nat × Prop)→Nat→Prop
  |[],_=>True
  |c::l,i=>bif Nat.beq c.1 i then c.2 else Hm l i
theorem Qh:∀{l:List (Nat × Prop)} (i:Nat),COk l→Hm l i
  |[],_,_=>trivial
  |c::l,i,k=>by
    unfold Hm
    cases hb:Nat.beq c.1 i with
    |true=>exact k.1
    |false=>exact Qh i k.2
structure Conv where
  i:Nat
  t:Nat
  a:AV
  b:AV
def VOk:List Conv→Prop
  |[]=>True
  |v::l=>Imp v.a v.b∧VOk l
theorem v0:VOk []:=trivial
theorem vk (i t:Nat) {a b:AV} {l:List Conv} (h:Imp a b) (k:VOk l):VOk (⟨i,t,a,b⟩::l):=⟨h,k⟩
noncomputable def I6 (i:Nat):Option Prop→List (Nat × Prop)→List (Nat × Prop)
  |none,l=>l
  |some p,l=>(i,p)::l
noncomputable def Ts (q:Bool):Option Prop→Option Prop
  |none=>none
  |some p=>some (q=true→p)
noncomputable def Va (n:Nat) (ops:Array Oper) (h:Hint) (o:Oper) (x:St):Option (St × Option Prop × List AV × Bool):=match o.op with
  | .call { callee := .value (.func f), args := ar, argTypes := _ } => bif Nat.beq f h.f then
      (bif h.c then (match Hk ops x.s o.guard with
        |some q=>match Ea (Hu ar.toList (evA x.s)) ar.toList with
          |some al=>bif frzl al then (match B6 n o.dst (.cond q h.r) x.s with
            |some s'=>some (⟨s',x.h,x.nx⟩,Ts q (Em (evA x.s) ar.toList),al,q)
            |none=>none) else none
          |none=>none
        |none=>none)
      else bif Dh ops x.s o.guard then (match Ea (evA x.s) ar.toList with
          |some al=>bif frzl al then (match B6 n o.dst h.r x.s with
            |some s'=>some (⟨s',x.h,x.nx⟩,none,al,true)
            |none=>none) else none
          |none=>none) else none) else none
  |_=>none
noncomputable def Gq (i:Nat):List Conv→St→Option (St × List AV)
  |[],x=>some (x,[])
  | v :: l, x => bif Nat.beq v.i i then (match Cl v.t x.s with
      |some a=>match Gq i l ⟨Fh v.t v.b x.s,x.h,x.nx⟩ with
        |some (y,m)=>some (y,a::m)
        |none=>none
      |none=>none) else Gq i l x
noncomputable def Gr (i:Nat):List Conv→List AV
  |[]=>[]
  |v::l=>bif Nat.beq v.i i then v.a::Gr i l else Gr i l
noncomputable def He (P:Program) (i:Nat):List (Nat × Nat)→St→Option St
  |[],x=>some x
  | t :: l, x => bif Nat.beq t.1 i then (match M7 P t.2 x with
      |some y=>He P i l y
      |none=>none) else He P i l x
noncomputable def Lm (P:Program) (n:Nat) (ops:Array Oper) (lz:List Nat) (H:List Hint) (i:Nat) (o:Oper) (x:St):Option (St × Option Prop × Option (List AV × Bool)):=match N3 H i with
  |none=>match Jh P n ops lz o x with
    |some (y,C)=>some (y,C,none)
    |none=>none
  |some h=>match Va n ops h o x with
    |some (y,C,A)=>some (y,C,some A)
    |none=>none
noncomputable def Mq (i:Nat) (A:Option (List AV × Bool)) (l:List (Nat × List AV × Bool)):List (Nat × List AV × Bool):=match A with
  |none=>l
  |some a=>(i,a)::l
noncomputable def Hj (H:List Hint) (i:Nat):List AV × Bool:=match N3 H i with
  |some h=>(h.al,h.q)
  |none=>([],false)
section
variable {P : Program} {B : Bas} {w : World} {F F0 : Cx} {n : Nat} {φ : Phi} {σ : Nat → Value} {K : Exit → St → Prop} {KK : St → Prop} {x y : St} {E : Bool} {ops : Array Oper} {fuel : Nat} {listed : Array Bool} {H : List Hint} {lz : List Nat} {i : Nat} {o : Oper} {C : Option Prop} {A : Option (List AV × Bool)}
theorem Q3e {h : Hint} {al : List AV} {q : Bool} (hc : Va n ops h o x = some (y, C, al, q)) : ∃ dst ty ps af g ar ts s', o = ⟨dst, .call { callee := .value (.func h.f), args := ar, argTypes := ts }, ty, ps, af, g⟩ ∧ frzl al = true ∧ y = ⟨s', x.h, x.nx⟩ ∧
    ((Hk ops x.s g=some q∧Ea (Hu ar.toList (evA x.s)) ar.toList=some al∧B6 n dst (.cond q h.r) x.s=some s'∧C=Ts q (Em (evA x.s) ar.toList)) ∨
    (Dh ops x.s g=true∧Ea (evA x.s) ar.toList=some al∧B6 n dst h.r x.s=some s'∧q=true)):=by
  obtain⟨dst,op,ty,ps,af,g⟩:=o
  unfold Va at hc
  split at hc
  · rename_i f ar ts hop
    simp only at hop hc
    subst hop
    cases hb:Nat.beq f h.f with
    |false=>rw[hb] at hc;cases hc
    |true =>
      have hf:=Nat.eq_of_beq_eq_true hb
      rw[hb,cond_true] at hc
      cases hcc:h.c with
      |true =>
        rw[hcc,cond_true] at hc
        split at hc
        · rename_i q' hg
          split at hc
          · rename_i al' hal
            cases hz:frzl al' with
            |false=>rw[hz] at hc;cases hc
            |true =>
              rw[hz,cond_true] at hc
              split at hc
              · rename_i s' hp
                simp only[Option.some.injEq,Prod.mk.injEq] at hc
                obtain⟨rfl,rfl,rfl,rfl⟩:=hc
                exact⟨_,_,_,_,_,_,_,_,by rw[hf],hz,rfl,.inl ⟨hg,hal,hp,rfl⟩⟩
              · cases hc
          · cases hc
        · cases hc
      |false =>
        rw[hcc,cond_false] at hc
        cases hg:Dh ops x.s g with
        |false=>rw[hg] at hc;cases hc
        |true =>
          rw[hg,cond_true] at hc
          split at hc
          · rename_i al' hal
            cases hz:frzl al' with
            |false=>rw[hz] at hc;cases hc
            |true =>
              rw[hz,cond_true] at hc
              split at hc
              · rename_i s' hp
                simp only[Option.some.injEq,Prod.mk.injEq] at hc
                obtain⟨rfl,rfl,rfl,rfl⟩:=hc
                exact⟨_,_,_,_,_,_,_,_,by rw[hf],hz,rfl,.inr ⟨hg,hal,hp,rfl⟩⟩
              · cases hc
          · cases hc
  · cases hc
theorem Q0w {q:Bool} {c:Option Prop} (h:Bn (Ts q c)) (k:q=true):Bn c:=by
  cases c with
  |none=>trivial
  |some p=>exact h k
theorem X7g {rest:List Oper} {dst:Option Tmp} {op:Op} {ty:TypeId} {ps:String} {af:Array Edge} {g:Option (Nat × Bool)} {r:AV} {s':Fr} (hg:Hk ops x.s g=some false) (hp:B6 n dst (.cond false r) x.s=some s') (next:SO P n ops rest B F K ⟨s',x.h,x.nx⟩):SO P n ops (⟨dst,op,ty,ps,af,g⟩::rest) B F K x:=by
  unfold SO at next ⊢
  intro φ σ w hx
  exact Fd (Ky hx.fr hg) (next φ _ w ⟨hx.fr.put hp Jb,hx.rel,hx.dom,hx.old,hx.new,hx.base⟩)
theorem Q6e {rest:List Oper} (hc:Lm P n ops lz H i o x=some (y,C,A)) (hC:Bn C) (hH:HOk P H) (hA:∀a,A=some a→a=Hj H i) (next:SO P n ops rest B F K y):SO P n ops (o::rest) B F K x:=by
  unfold Lm at hc
  split at hc
  · split at hc
    · rename_i z D hz
      cases hc
      intro φ σ w hx
      exact R2 hx hz hC fun φ' σ' w' hh e=>next φ' σ' w' hh
    · cases hc
  · rename_i h hh
    split at hc
    · rename_i z D a hz
      cases hc
      obtain⟨al,q⟩:=a
      have ha:=hA _ rfl
      unfold Hj at ha
      rw[hh] at ha
      simp only[Prod.mk.injEq] at ha
      have hok:=T3 hH hh
      rw[←ha.1,←ha.2] at hok
      obtain⟨dst,ty,ps,af,g,ar,ts,s',rfl,hf,rfl,⟨h1,h2,h3,rfl⟩|⟨h1,h2,h3,rfl⟩⟩:=Q3e hz
      · cases q with
        |true=>exact X7m h1 (hok rfl).1 h2 (Q0w hC) hf (fun _=>(hok rfl).2) h3 next
        |false=>exact X7g h1 h3 next
      · exact X7n h1 (hok rfl).1 h2 hf (hok rfl).2 h3 next
    · cases hc
theorem X7p (i : Nat) {dst : Option Tmp} {op : Op} {ty : TypeId} {ps : String} {af : Array Edge} {g : Option (Nat × Bool)} {r : AV} {s' : Fr} (hi : ops[i]? = some ⟨dst, op, ty, ps, af, g⟩) (hg : Hk ops x.s g = some false) (hp : B6 n dst (.cond false r) x.s = some s')
    (next:SG P n ops B F KK F0 false fuel (listed.setIfInBounds i true) ⟨s',x.h,x.nx⟩):SN P n ops B F KK F0 E fuel listed i x:=by
  intro φ σ w hx hE
  refine⟨_,hi,?_⟩
  unfold SG at next
  have hh':Holds B F0 n ⟨s',x.h,x.nx⟩ φ (Ci σ dst undef) w:=⟨hx.fr.put hp Jb,hx.rel,hx.dom,hx.old,hx.new,hx.base⟩
  exact Fd (Ky hx.fr hg) (C9 ⟨rfl,hh'.hold,next _ _ _ hh' (fun q=>by cases q)⟩)
theorem Q6f (hi:ops[i]? = some o) (hc:Lm P n ops lz H i o x=some (y,C,A)) (hC:Bn C) (hH:HOk P H) (hA:∀a,A=some a→a=Hj H i) (next:SG P n ops B F KK F0 (E&&A.isNone) fuel (listed.setIfInBounds i true) y):SN P n ops B F KK F0 E fuel listed i x:=by
  unfold Lm at hc
  split at hc
  · split at hc
    · rename_i z D hz
      cases hc
      rw[show(E&&(none:Option (List AV × Bool)).isNone)=E by simp] at next
      exact Q46 i lz hi hz hC next
    · cases hc
  · rename_i h hh
    split at hc
    · rename_i z D a hz
      cases hc
      rw[show(E&&(some a).isNone)=false by simp] at next
      obtain⟨al,q⟩:=a
      have ha:=hA _ rfl
      unfold Hj at ha
      rw[hh] at ha
      simp only[Prod.mk.injEq] at ha
      have hok:=T3 hH hh
      rw[←ha.1,←ha.2] at hok
      obtain⟨dst,ty,ps,af,g,ar,ts,s',rfl,hf,rfl,⟨h1,h2,h3,rfl⟩|⟨h1,h2,h3,rfl⟩⟩:=Q3e hz
      · cases q with
        |true=>exact X7r i hi h1 (hok rfl).1 h2 (Q0w hC) hf (fun _=>(hok rfl).2) h3 next
        |false=>exact X7p i hi h1 h3 next
      · exact X7s i hi h1 (hok rfl).1 h2 hf (hok rfl).2 h3 next
    · cases hc
noncomputable def Ep (P:Program) (n:Nat) (ops:Array Oper) (lz:List Nat) (H:List Hint) (V:List Conv) (T:List (Nat × Nat)):Nat→List Oper→St→Option (St × List (Nat × Prop) × List (Nat × List AV × Bool) × List (Nat × List AV))
  |_,[],x=>some (x,[],[],[])
  |i,o::l,x=>match He P i T x with
    |some x0=>match Gq i V x0 with
      |some (x1,m)=>match Lm P n ops lz H i o x1 with
        |some (y,C,A)=>match Ep P n ops lz H V T (i+1) l y with
          |some (z,cs,ms,vs)=>some (z,I6 i C cs,Mq i A ms,(i,m)::vs)
          |none=>none
        |none=>none
      |none=>none
    |none=>none
def Ld (H:List Hint) (V:List Conv) (CS:List (Nat × Prop)) (cs:List (Nat × Prop)) (ms:List (Nat × List AV × Bool)) (vs:List (Nat × List AV)):Prop :=
  (∀c∈cs,c.2=Hm CS c.1)∧(∀a∈ms,a.2=Hj H a.1)∧∀v∈vs,v.2=Gr v.1 V
theorem R0 {j:Nat} {l:List Oper}:∀{T:List (Nat × Nat)} {x y:St},He P j T x=some y→SO P n ops l B F K y→SO P n ops l B F K x
  |[],x,y,h,k=>by cases h;exact k
  |t::r,x,y,h,k=>by
    unfold He at h
    cases hb:Nat.beq t.1 j with
    |false=>rw[hb,cond_false] at h;exact R0 h k
    |true =>
      rw[hb,cond_true] at h
      split at h
      · rename_i z hz;exact Vs _ hz (R0 h k)
      · cases h
theorem U3 {j:Nat} {l:List Oper}:∀{V:List Conv} {x y:St} {m:List AV},VOk V→Gq j V x=some (y,m)→m=Gr j V→SO P n ops l B F K y→SO P n ops l B F K x
  |[],x,y,m,_,h,_,k=>by cases h;exact k
  |v::r,x,y,m,hV,h,hm,k=>by
    unfold Gq at h
    unfold Gr at hm
    cases hb:Nat.beq v.i j with
    |false=>rw[hb,cond_false] at h hm;exact U3 hV.2 h hm k
    |true =>
      rw[hb,cond_true] at h hm
      split at h
      · rename_i a ha
        split at h
        · rename_i z m' hz
          cases h
          simp only[List.cons.injEq] at hm
          exact Ft _ _ ha (by rw[hm.1];exact hV.1) (U3 hV.2 hz hm.2 k)
        · cases h
      · cases h
theorem W8 {V : List Conv} {T : List (Nat × Nat)} {CS : List (Nat × Prop)} (hH : HOk P H) (hV : VOk V) (hCS : COk CS) : ∀ {l rest : List Oper} {i : Nat} {x y : St} {cs : List (Nat × Prop)} {ms : List (Nat × List AV × Bool)} {vs : List (Nat × List AV)},
    Ep P n ops lz H V T i l x=some (y,cs,ms,vs)→Ld H V CS cs ms vs→SO P n ops rest B F K y→SO P n ops (l++rest) B F K x
  |[],rest,i,x,y,cs,ms,vs,h,_,k=>by cases h;exact k
  |o::l,rest,i,x,y,cs,ms,vs,h,hf,k=>by
    unfold Ep at h
    split at h
    · rename_i x0 h0
      split at h
      · rename_i x1 m h1
        split at h
        · rename_i z C A hz
          split at h
          · rename_i u cs' ms' vs' hr
            simp only[Option.some.injEq,Prod.mk.injEq] at h
            obtain⟨rfl,rfl,rfl,rfl⟩:=h
            obtain⟨f1,f2,f3⟩:=hf
            have hC:Bn C:=by
              cases C with
              |none=>trivial
              |some p =>
                have e:p=Hm CS i:=f1 (i,p) (by simp[I6])
                show p
                rw[e];exact Qh i hCS
            have hA:∀a,A=some a→a=Hj H i:=by
              rintro a rfl
              exact f2 (i,a) (by simp[Mq])
            have f':Ld H V CS cs' ms' vs':=by
              refine⟨fun c hc=>f1 c ?_,fun a ha=>f2 a ?_,fun v hv=>f3 v (by simp[hv])⟩
              · cases C<;>simp[I6,hc]
              · cases A<;>simp[Mq,ha]
            exact R0 h0 (U3 hV h1 (f3 (i,m) (by simp)) (Q6e hz hC hH hA (W8 hH hV hCS hr f' k)))
          · cases h
        · cases h
      · cases h
    · cases h
noncomputable def Fb (ts:List Nat) (r:Option (St × List (Nat × Prop) × List (Nat × List AV × Bool) × List (Nat × List AV))):Option (St × List (Nat × Prop) × List (Nat × List AV × Bool) × List (Nat × List AV)):=match r with
  |some (y,q)=>match Gh ts y.s with
    |some s=>some (⟨s,y.h,y.nx⟩,q)
    |none=>none
  |none=>none
noncomputable def stO (r:Option (St × List (Nat × Prop) × List (Nat × List AV × Bool) × List (Nat × List AV))):St:=match r with
  |some (y,_)=>y
  |none=>⟨[],[],0⟩
noncomputable def Kb (H:List Hint) (V:List Conv) (CS:List (Nat × Prop)) (r:Option (St × List (Nat × Prop) × List (Nat × List AV × Bool) × List (Nat × List AV))):Option (List (Nat × Prop) × List (Nat × List AV × Bool) × List (Nat × List AV)):=match r with
  |some (_,cs,ms,vs)=>some (cs.map fun c=>(c.1,Hm CS c.1),ms.map fun a=>(a.1,Hj H a.1),vs.map fun v=>(v.1,Gr v.1 V))
  |none=>some ([],[(0,[],true)],[])
noncomputable def K6 (r:Option (St × List (Nat × Prop) × List (Nat × List AV × Bool) × List (Nat × List AV))):Option (List (Nat × Prop) × List (Nat × List AV × Bool) × List (Nat × List AV)):=match r with
  |some (_,q)=>some q
  |none=>none
theorem L5 {α β:Type} {l:List (α × β)} {f:α→β} (h:l=l.map fun c=>(c.1,f c.1)):∀c∈l,c.2=f c.1:=by
  intro c hc
  rw[h] at hc
  obtain⟨d,_,rfl⟩:=List.mem_map.1 hc
  rfl
theorem Q5z {V:List Conv} {CS:List (Nat × Prop)} {r:Option (St × List (Nat × Prop) × List (Nat × List AV × Bool) × List (Nat × List AV))} (h:K6 r=Kb H V CS r):∃y cs ms vs,r=some (y,cs,ms,vs)∧Ld H V CS cs ms vs:=by
  cases r with
  |none=>cases h
  |some q =>
    obtain⟨y,cs,ms,vs⟩:=q
    simp only[K6,Kb,Option.some.injEq,Prod.mk.injEq] at h
    exact⟨y,cs,ms,vs,rfl,L5 (f:=Hm CS) h.1,L5 (f:=Hj H) h.2.1,L5 (f:=fun j=>Gr j V) h.2.2⟩
theorem Br {V : List Conv} {CS : List (Nat × Prop)} {l : List Oper} (k i : Nat) (lz ts : List Nat) (T : List (Nat × Nat)) (hH : HOk P H) (hV : VOk V) (hCS : COk CS) (next : SO P n ops (l.drop k) B F K (stO (Fb ts (Ep P n ops lz H V T i (l.take k) x))))
    (h:K6 (Fb ts (Ep P n ops lz H V T i (l.take k) x))=Kb H V CS (Fb ts (Ep P n ops lz H V T i (l.take k) x)):=by kernel_rfl):SO P n ops l B F K x:=by
  obtain⟨y,cs,ms,vs,hr,hf⟩:=Q5z h
  rw[hr] at next
  unfold Fb at hr
  split at hr
  · rename_i z q hz
    split at hr
    · rename_i s hs
      simp only[Option.some.injEq,Prod.mk.injEq] at hr
      obtain⟨rfl,rfl⟩:=hr
      have:=W8 (rest:=l.drop k) hH hV hCS hz hf (fun φ σ w hx=>next φ σ w (hx.sel hs))
      rwa [List.take_append_drop] at this
    · cases hr
  · cases hr
theorem Av {V : List Conv} {CS : List (Nat × Prop)} {l : List Oper} (i : Nat) (lz ts : List Nat) (T : List (Nat × Nat)) (hH : HOk P H) (hV : VOk V) (hCS : COk CS) (next : K .normal (stO (Fb ts (Ep P n ops lz H V T i l x))))
    (h:K6 (Fb ts (Ep P n ops lz H V T i l x))=Kb H V CS (Fb ts (Ep P n ops lz H V T i l x)):=by kernel_rfl):SO P n ops l B F K x:=by
  refine Br l.length i lz ts T hH hV hCS ?_ ?_
  · rw[List.take_length,List.drop_length];exact B5 next
  · rw[List.take_length];exact h
theorem Ey {l:List Oper} (lz ts:List Nat) (next:K .normal (stO (Fb ts (Ep P n ops lz [] [] [] 0 l x)))) (h:K6 (Fb ts (Ep P n ops lz [] [] [] 0 l x))=Kb [] [] [] (Fb ts (Ep P n ops lz [] [] [] 0 l x)):=by kernel_rfl):SO P n ops l B F K x:=Av 0 lz ts [] hk0 v0 c0 next h
theorem Af {V : List Conv} {CS : List (Nat × Prop)} {id : Nat} {l : List Oper} {d : Code} (lz ts : List Nat) (T : List (Nat × Nat)) (hH : HOk P H) (hV : VOk V) (hCS : COk CS) (next : SW P n d B F K (stO (Fb ts (Ep P n l.toArray lz H V T 0 l x))))
    (h:K6 (Fb ts (Ep P n l.toArray lz H V T 0 l x))=Kb H V CS (Fb ts (Ep P n l.toArray lz H V T 0 l x)):=by kernel_rfl):SW P n (.seq (.region id l.toArray false) d) B F K x:=Ad (Ap (Av 0 lz ts T hH hV hCS next h))
theorem Aa {id : Nat} {l : List Oper} {d : Code} (lz ts : List Nat) (next : SW P n d B F K (stO (Fb ts (Ep P n l.toArray lz [] [] [] 0 l x)))) (h : K6 (Fb ts (Ep P n l.toArray lz [] [] [] 0 l x)) = Kb [] [] [] (Fb ts (Ep P n l.toArray lz [] [] [] 0 l x)) := by kernel_rfl) :
    SW P n (.seq (.region id l.toArray false) d) B F K x:=Af lz ts [] hk0 v0 c0 next h
end
theorem Ao:(∀a b:Bool,((a&&b)=true)=(a=true∧b=true))∧(∀a b:Bool,((a||b)=true)=(a=true∨b=true))∧(∀x y:Bool,((x&&y)=false)=(x=false∨y=false))∧(∀x y:Bool,((x||y)=false)=(x=false∧y=false))∧(∀b:Bool,((!b)=true)=(b=false))∧(∀b:Bool,((!b)=false)=(b=true))∧(∀(p:Prop) [Decidable p],(decide p=true)=p)∧(∀(p:Prop) [Decidable p],(decide p=false) = ¬p) :=
  ⟨fun a b=>by simp,fun a b=>by simp,fun x y=>by cases x<;>simp,fun a b=>by simp,fun b=>by simp,fun b=>by simp,fun p _=>by simp,fun p _=>by simp⟩
end Sv
end
section
open Go Go.RowKit
namespace Sv
abbrev J8:=List St × List (Nat × Prop) × List (Nat × List AV × Bool) × List (Nat × List AV)
noncomputable def noT (i:Nat):List (Nat × Nat)→Bool
  |[]=>true
  |t::l => !Nat.beq t.1 i&&noT i l
noncomputable def Q3d:Op→Bool
  |.call { callee:=.value _,args:=_,argTypes:=_ }=>true
  |_=>false
noncomputable def I0 (P:Program) (E:Bool) (n:Nat) (ops:Array Oper) (lz:List Nat) (V:List Conv) (T:List (Nat × Nat)) (listed:Array Bool) (x:St):List Nat→Option (Nat × List AV × St × Option Prop)
  |[]=>none
  |i::l=>bif Region.free .any ops listed i&&noT i T then (match ops[i]? with
    |some o=>bif Q3d o.op then I0 P E n ops lz V T listed x l else (match Gq i V x with
      |some (x1,m)=>match Ln P E n ops lz o x1 with
        |some (y,C)=>some (i,m,y,C)
        |none=>I0 P E n ops lz V T listed x l
      |none=>I0 P E n ops lz V T listed x l)
    |none=>I0 P E n ops lz V T listed x l) else I0 P E n ops lz V T listed x l
noncomputable def Qt (f:Nat→Option J8):List Nat→Option J8
  |[]=>some ([],[],[],[])
  |i::l=>match f i with
    |some (a,b,c,d)=>match Qt f l with
      |some (a',b',c',d')=>some (a++a',b++b',c++c',d++d')
      |none=>none
    |none=>none
noncomputable def G0 (P:Program) (n:Nat) (ops:Array Oper) (lz ts:List Nat) (H:List Hint) (V:List Conv) (T:List (Nat × Nat)):Nat→Bool→Array Bool→St→Option J8
  |0,E,listed,x=>match Region.ready .any ops listed with
    |[]=>match Gh ts x.s with
      |some s=>some ([⟨s,x.h,x.nx⟩],[],[],[])
      |none=>none
    |_::_=>none
  |fuel+1,E,listed,x=>match Region.ready .any ops listed with
    |[]=>match Gh ts x.s with
      |some s=>some ([⟨s,x.h,x.nx⟩],[],[],[])
      |none=>none
    |a::l=>match I0 P E n ops lz V T listed x (a::l) with
      |some (i,m,y,C)=>match G0 P n ops lz ts H V T fuel E (listed.setIfInBounds i true) y with
        |some (fs,cs,ms,vs)=>some (fs,I6 i C cs,ms,(i,m)::vs)
        |none=>none
      |none=>Qt (fun i=>match ops[i]? with
        |some o=>match He P i T x with
          |some x0=>match Gq i V x0 with
            |some (x1,m)=>match Lm P n ops lz H i o x1 with
              |some (y,C,A)=>match G0 P n ops lz ts H V T fuel (E&&noT i T&&A.isNone) (listed.setIfInBounds i true) y with
                |some (fs,cs,ms,vs)=>some (fs,I6 i C cs,Mq i A ms,(i,m)::vs)
                |none=>none
              |none=>none
            |none=>none
          |none=>none
        |none=>none) (a::l)
section
variable {P : Program} {B : Bas} {w : World} {F F0 : Cx} {n : Nat} {φ : Phi} {σ : Nat → Value} {K : Exit → St → Prop} {KK : St → Prop} {x y : St} {E : Bool} {ops : Array Oper} {fuel : Nat} {listed : Array Bool} {H : List Hint} {V : List Conv} {T : List (Nat × Nat)} {CS : List (Nat × Prop)} {lz ts : List Nat} {i : Nat} {o : Oper} {C : Option Prop} {A : Option (List AV × Bool)}
theorem Wp {j:Nat}:∀{T:List (Nat × Nat)} {x y:St},He P j T x=some y→noT j T=true→y=x
  |[],x,y,h,_=>by cases h;rfl
  |t::r,x,y,h,k=>by
    unfold noT at k
    simp only[Bool.and_eq_true,Bool.not_eq_true'] at k
    unfold He at h
    rw[k.1,cond_false] at h
    exact Wp h k.2
theorem Rz {j:Nat}:∀{T:List (Nat × Nat)} {x y:St} {φ:Phi},He P j T x=some y→Holds B F n x φ σ w→∃φ',Holds B F n y φ' σ w
  |[],x,y,φ,h,hx=>by cases h;exact⟨φ,hx⟩
  |t::l,x,y,φ,h,hx=>by
    unfold He at h
    cases hb:Nat.beq t.1 j with
    |false=>rw[hb,cond_false] at h;exact Rz h hx
    |true =>
      rw[hb,cond_true] at h
      split at h
      · rename_i z hz
        obtain⟨φ',h'⟩:=hx.still hz
        exact Rz h h'
      · cases h
theorem Qz {j:Nat}:∀{V:List Conv} {x y:St} {m:List AV},VOk V→Gq j V x=some (y,m)→m=Gr j V→Holds B F n x φ σ w→Holds B F n y φ σ w
  |[],x,y,m,_,h,_,hx=>by cases h;exact hx
  |v::l,x,y,m,hV,h,hm,hx=>by
    unfold Gq at h
    unfold Gr at hm
    cases hb:Nat.beq v.i j with
    |false=>rw[hb,cond_false] at h hm;exact Qz hV.2 h hm hx
    |true =>
      rw[hb,cond_true] at h hm
      split at h
      · rename_i a ha
        split at h
        · rename_i z m' hz
          cases h
          simp only[List.cons.injEq] at hm
          exact Qz hV.2 hz hm.2 (hx.conv ha (by rw[hm.1];exact hV.1))
        · cases h
      · cases h
theorem Q1f:∀{l:List Nat} {i:Nat} {m:List AV} {y:St} {C:Option Prop},I0 P E n ops lz V T listed x l=some (i,m,y,C)→i∈l∧Region.free .any ops listed i=true∧∃o x1,ops[i]? = some o∧Gq i V x=some (x1,m)∧Ln P E n ops lz o x1=some (y,C)
  |[],i,m,y,C,h=>by cases h
  |a::l,i,m,y,C,h=>by
    have more:I0 P E n ops lz V T listed x l=some (i,m,y,C)→i∈a::l∧Region.free .any ops listed i=true∧∃o x1,ops[i]? = some o∧Gq i V x=some (x1,m)∧Ln P E n ops lz o x1=some (y,C):=fun k=>by
      obtain⟨k1,k2⟩:=Q1f k;exact⟨List.mem_cons_of_mem _ k1,k2⟩
    unfold I0 at h
    cases hb:Region.free .any ops listed a&&noT a T with
    |false=>rw[hb,cond_false] at h;exact more h
    |true =>
      rw[hb,cond_true] at h
      simp only[Bool.and_eq_true] at hb
      split at h
      · rename_i o ho
        cases hk:Q3d o.op with
        |true=>rw[hk,cond_true] at h;exact more h
        |false =>
          rw[hk,cond_false] at h
          split at h
          · rename_i x1 m1 hx1
            split at h
            · rename_i y1 C1 hy1
              simp only[Option.some.injEq,Prod.mk.injEq] at h
              obtain⟨rfl,rfl,rfl,rfl⟩:=h
              exact⟨List.mem_cons_self,hb.1,o,x1,ho,hx1,hy1⟩
            · exact more h
          · exact more h
      · exact more h
theorem Q2r {f : Nat → Option J8} : ∀ {l : List Nat} {a : List St} {b : List (Nat × Prop)} {c : List (Nat × List AV × Bool)} {d : List (Nat × List AV)}, Qt f l = some (a, b, c, d) →
    ∀i∈l,∃a' b' c' d',f i=some (a',b',c',d')∧(∀y∈a',y∈a)∧(∀y∈b',y∈b)∧(∀y∈c',y∈c)∧∀y∈d',y∈d
  |[],a,b,c,d,h,i,hi=>by cases hi
  |j::l,a,b,c,d,h,i,hi=>by
    unfold Qt at h
    split at h
    · rename_i a1 b1 c1 d1 h1
      split at h
      · rename_i a2 b2 c2 d2 h2
        simp only[Option.some.injEq,Prod.mk.injEq] at h
        obtain⟨rfl,rfl,rfl,rfl⟩:=h
        rcases List.mem_cons.1 hi with rfl|hi
        · exact⟨a1,b1,c1,d1,h1,fun y hy=>List.mem_append_left _ hy,fun y hy=>List.mem_append_left _ hy,fun y hy=>List.mem_append_left _ hy,fun y hy=>List.mem_append_left _ hy⟩
        · obtain⟨a',b',c',d',k1,k2,k3,k4,k5⟩:=Q2r h2 i hi
          exact⟨a',b',c',d',k1,fun y hy=>List.mem_append_right _ (k2 y hy),fun y hy=>List.mem_append_right _ (k3 y hy),fun y hy=>List.mem_append_right _ (k4 y hy),fun y hy=>List.mem_append_right _ (k5 y hy)⟩
      · cases h
    · cases h
theorem X7w {l:List Nat} (hr:Region.ready .any ops listed=l) (hl:l≠[]) (h:∀i∈l,SN P n ops B F KK F0 E fuel listed i x):SG P n ops B F KK F0 E (fuel+1) listed x:=by
  unfold SG
  intro φ σ w hx hE
  exact Rd hr hl fun k hk=>h k hk φ σ w hx hE
theorem X7x {m:List AV} (hV:VOk V) (h:Gq i V x=some (y,m)) (hm:m=Gr i V) (k:SG P n ops B F KK F0 E fuel listed y):SG P n ops B F KK F0 E fuel listed x:=by
  unfold SG at k ⊢
  exact fun φ σ w hx hE=>k φ σ w (Qz hV h hm hx) hE
theorem X7q {m:List AV} {j:Nat} (hV:VOk V) (h:Gq j V x=some (y,m)) (hm:m=Gr j V) (k:SN P n ops B F KK F0 E fuel listed i y):SN P n ops B F KK F0 E fuel listed i x :=
  fun φ σ w hx hE=>k φ σ w (Qz hV h hm hx) hE
theorem X7o {j:Nat} (h:He P j T x=some y) (k:SN P n ops B F KK F0 (E&&noT j T) fuel listed i y):SN P n ops B F KK F0 E fuel listed i x:=by
  intro φ σ w hx hE
  cases hn:noT j T with
  |true =>
    have:=Wp h hn;subst this
    rw[hn,Bool.and_true] at k
    exact k φ σ w hx hE
  |false =>
    rw[hn,Bool.and_false] at k
    obtain⟨φ',h'⟩:=Rz h hx
    obtain⟨o,h1,h2⟩:=k φ' σ w h' (fun q=>by cases q)
    exact⟨o,h1,h2⟩
theorem Q85 (hs : Region.noSelect ops = true) (hH : HOk P H) (hV : VOk V) (hCS : COk CS) : ∀ {fuel : Nat} {E : Bool} {listed : Array Bool} {x : St} {fs : List St} {cs : List (Nat × Prop)} {ms : List (Nat × List AV × Bool)} {vs : List (Nat × List AV)},
    G0 P n ops lz ts H V T fuel E listed x=some (fs,cs,ms,vs)→Ld H V CS cs ms vs→(∀y∈fs,KK y)→SG P n ops B F KK F0 E fuel listed x:=by
  have fin : ∀ {fuel : Nat} {E : Bool} {listed : Array Bool} {x : St} {fs : List St} {cs : List (Nat × Prop)} {ms : List (Nat × List AV × Bool)} {vs : List (Nat × List AV)}, Region.ready .any ops listed = [] →
      (match Gh ts x.s with|some s=>some (([⟨s,x.h,x.nx⟩],[],[],[]):J8)|none=>none)=some (fs,cs,ms,vs)→(∀y∈fs,KK y)→SG P n ops B F KK F0 E fuel listed x:=by
    intro fuel E listed x fs cs ms vs hr h hk
    split at h
    · rename_i s hsel
      simp only[Option.some.injEq,Prod.mk.injEq] at h
      obtain⟨rfl,_⟩:=h
      exact Vv ts hsel (Hd hr (hk _ (by simp)))
    · cases h
  intro fuel
  induction fuel with
  |zero =>
    intro E listed x fs cs ms vs h hf hk
    unfold G0 at h
    split at h
    · rename_i hr;exact fin hr h hk
    · cases h
  |succ fuel ih =>
    intro E listed x fs cs ms vs h hf hk
    unfold G0 at h
    split at h
    · rename_i hr;exact fin hr h hk
    · rename_i a l hr
      obtain⟨f1,f2,f3⟩:=hf
      split at h
      · rename_i i m y C hfi
        split at h
        · rename_i fs' cs' ms' vs' hrec
          simp only[Option.some.injEq,Prod.mk.injEq] at h
          obtain⟨rfl,rfl,rfl,rfl⟩:=h
          obtain⟨hi,hfree,o,x1,ho,hx1,hy⟩:=Q1f hfi
          have hC:Bn C:=by
            cases C with
            |none=>trivial
            |some p =>
              have e:p=Hm CS i:=f1 (i,p) (by simp[I6])
              show p
              rw[e];exact Qh i hCS
          have f':Ld H V CS cs' ms' vs':=by
            refine⟨fun c hc=>f1 c ?_,f2,fun v hv=>f3 v (by simp[hv])⟩
            cases C<;>simp[I6,hc]
          exact X7x hV hx1 (f3 (i,m) (by simp)) (Q48 i lz ho hs hfree (by rw[hr];simpa using hi) hy hC (ih hrec f' hk))
        · cases h
      · refine X7w hr (by simp) fun i hi=>?_
        obtain⟨fs1,cs1,ms1,vs1,h1,g1,g2,g3,g4⟩:=Q2r h i hi
        split at h1
        · rename_i o ho
          split at h1
          · rename_i x0 hx0
            split at h1
            · rename_i x1 m hx1
              split at h1
              · rename_i y C A hy
                split at h1
                · rename_i fs' cs' ms' vs' hrec
                  simp only[Option.some.injEq,Prod.mk.injEq] at h1
                  obtain⟨rfl,rfl,rfl,rfl⟩:=h1
                  have hC:Bn C:=by
                    cases C with
                    |none=>trivial
                    |some p =>
                      have e:p=Hm CS i:=f1 (i,p) (g2 _ (by simp[I6]))
                      show p
                      rw[e];exact Qh i hCS
                  have hA:∀a,A=some a→a=Hj H i:=by
                    rintro a rfl
                    exact f2 (i,a) (g3 _ (by simp[Mq]))
                  have f':Ld H V CS cs' ms' vs':=by
                    refine⟨fun c hc=>f1 c (g2 _ ?_),fun a ha=>f2 a (g3 _ ?_),fun v hv=>f3 v (g4 _ (by simp[hv]))⟩
                    · cases C<;>simp[I6,hc]
                    · cases A<;>simp[Mq,ha]
                  exact X7o hx0 (X7q hV hx1 (f3 (i,m) (g4 _ (by simp))) (Q6f ho hy hC hH hA (ih hrec f' fun y hy=>hk y (g1 y hy))))
                · cases h1
              · cases h1
            · cases h1
          · cases h1
        · cases h1
noncomputable def stD (r:Option J8):St:=match r with
  |some (y::_,_)=>y
  |_=>⟨[],[],0⟩
noncomputable def Rr (H:List Hint) (V:List Conv) (CS:List (Nat × Prop)) (r:Option J8):Option J8:=match r with
  |some (fs,cs,ms,vs)=>some (fs.map fun _=>stD r,cs.map fun c=>(c.1,Hm CS c.1),ms.map fun a=>(a.1,Hj H a.1),vs.map fun v=>(v.1,Gr v.1 V))
  |none=>some ([],[],[],[])
theorem Hc {id : Nat} {l : List Oper} (lz ts : List Nat) (T : List (Nat × Nat)) (hH : HOk P H) (hV : VOk V) (hCS : COk CS) (next : K .normal (stD (G0 P n l.toArray lz ts H V T l.length true (Array.replicate l.length false) x)))
    (hm:P.follows .mixedOrders=true:=by kernel_rfl) (hs:Region.noSelect l.toArray=true:=by kernel_rfl)
    (h:G0 P n l.toArray lz ts H V T l.length true (Array.replicate l.length false) x=Rr H V CS (G0 P n l.toArray lz ts H V T l.length true (Array.replicate l.length false) x):=by kernel_rfl):SW P n (.region id l.toArray true) B F K x:=by
  refine J4 hm fun F0 _=>?_
  cases hr:G0 P n l.toArray lz ts H V T l.length true (Array.replicate l.length false) x with
  |none=>rw[hr] at h;cases h
  |some q =>
    obtain⟨fs,cs,ms,vs⟩:=q
    rw[hr] at h next
    simp only[Rr,Option.some.injEq,Prod.mk.injEq] at h
    refine Q85 hs hH hV hCS hr ⟨L5 (f:=Hm CS) h.2.1,L5 (f:=Hj H) h.2.2.1,L5 (f:=fun j=>Gr j V) h.2.2.2⟩ fun y hy=>?_
    rw[h.1] at hy
    obtain⟨_,_,rfl⟩:=List.mem_map.1 hy
    exact next
theorem C2 {id : Nat} {l : List Oper} {d : Code} (lz ts : List Nat) (T : List (Nat × Nat)) (hH : HOk P H) (hV : VOk V) (hCS : COk CS) (next : SW P n d B F K (stD (G0 P n l.toArray lz ts H V T l.length true (Array.replicate l.length false) x)))
    (hm:P.follows .mixedOrders=true:=by kernel_rfl) (hs:Region.noSelect l.toArray=true:=by kernel_rfl)
    (h:G0 P n l.toArray lz ts H V T l.length true (Array.replicate l.length false) x=Rr H V CS (G0 P n l.toArray lz ts H V T l.length true (Array.replicate l.length false) x):=by kernel_rfl):SW P n (.seq (.region id l.toArray true) d) B F K x:=Ad (Hc lz ts T hH hV hCS next hm hs h)
noncomputable def gcD (ts:List Nat) (m:Nat) (x:St):St:=match gcS ts m x with
  |some y=>y
  |none=>⟨[],[],0⟩
noncomputable def gcB (ts:List Nat) (m:Nat) (x:St):Bool:=match gcS ts m x with
  |some _=>true
  |none=>false
theorem Tx {m:Nat} (h:gcB ts m x=true):gcS ts m x=some (gcD ts m x):=by
  unfold gcB at h
  unfold gcD
  split at h
  · rename_i y hy;rw[hy]
  · cases h
theorem Bz {c:Code} (I:Nat→St→Prop) (ts:List Nat) (m g:Nat) (hlo:F.lo≤m) (h0:I g (gcD ts m x)) (round:∀g y,I g y→SW P n c B F (Ke (fun z=>gcB ts m z=true∧∃g',g' < g∧I g' (gcD ts m z)) K) y) (k:gcB ts m x=true:=by kernel_rfl):SW P n (.loop c) B F K x :=
  X7e I ts m g hlo (Tx k) h0 fun g y hI=>Q4z (round g y hI) fun e z hz=>by
    cases e with
    |normal=>obtain⟨h1,g',h2,h3⟩:=hz;exact⟨_,Tx h1,g',h2,h3⟩
    |_=>exact hz
theorem D0 {c d:Code} (I:St→Prop) (ts:List Nat) (m:Nat) (hlo:F.lo≤m) (h:SW P n c B F (Ke (fun z=>gcB ts m z=true∧I (gcD ts m z)) K) x) (r:∀y,I y→SW P n d B F K y):SW P n (.seq c d) B F K x :=
  X7f (fun z=>gcB ts m z=true∧I (gcD ts m z)) h fun z hz=>Rg ts m hlo (Tx hz.1) (r _ hz.2)
theorem RK {rs : List ResultVar} {r : AV} {e : Exit} (he : e = .ret ∨ e = .normal) (rl : List AV) (h3 : Same (An rl) r)
    (h:(match Hw P rs x with|some al=>(match frzVl P x.h al with|some q=>some q.1|none=>none)|none=>none)=some rl:=by kernel_rfl):Sj P rs r e x:=by
  split at h
  · rename_i al ha
    split at h
    · rename_i q hq
      obtain⟨rl',h'⟩:=q
      cases h
      exact Q7g he ha hq h3
    · cases h
  · cases h
end
theorem P1 {q:Bool} {c:Option Prop} (p:Option Prop) (h:c=p) (k:q=true→Bn p):q=true→Bn c:=by subst h;exact k
noncomputable def Jl:AV→Nat→AV
  |.row _ _ g=>g
  |_=>fun _=>Bp
theorem wR:Exit.ret = .ret∨Exit.ret = .normal:=.inl rfl
end Sv
end
section
open Go Go.RowKit
namespace Sv
noncomputable def Kc (P:Program) (n:Nat) (ops:Array Oper) (lz:List Nat) (i:Nat) (x:St):Option (St × Option Prop):=match ops[i]? with
  |some o=>Jh P n ops lz o x
  |none=>none
noncomputable def stR (r:Option (St × Option Prop)):St:=match r with
  |some (y,_)=>y
  |none=>⟨[],[],0⟩
noncomputable def U5 (r:Option (St × Option Prop)):Option Prop:=match r with
  |some (_,C)=>C
  |none=>some False
noncomputable def stL (r:Option (St × Option Prop × Array Bool)):St:=match r with
  |some (y,_)=>y
  |none=>⟨[],[],0⟩
noncomputable def X5a (r:Option (St × Option Prop × Array Bool)):Option Prop:=match r with
  |some (_,C,_)=>C
  |none=>some False
noncomputable def lsL (r:Option (St × Option Prop × Array Bool)):Array Bool:=match r with
  |some (_,_,L)=>L
  |none => #[]
noncomputable def W3 (ts:List Nat) (s:Fr):Fr:=match Gh ts s with
  |some r=>r
  |none=>[]
noncomputable def W4 (ts:List Nat) (s:Fr):Bool:=match Gh ts s with
  |some _=>true
  |none=>false
noncomputable def lsD (n:Nat) (l:List Nat):Array Bool:=l.foldl (fun a i=>a.setIfInBounds i true) (Array.replicate n false)
section
variable {P : Program} {B : Bas} {w : World} {F F0 : Cx} {n : Nat} {KK : St → Prop} {x : St} {E : Bool} {ops : Array Oper} {fuel fuel' : Nat} {listed : Array Bool} {C : Option Prop}
theorem Wt {lz:List Nat} {i:Nat} (h:U5 (Kc P n ops lz i x)=C) (hC:Bn C):∃o,ops[i]? = some o∧Jh P n ops lz o x=some (stR (Kc P n ops lz i x),C):=by
  unfold Kc at h ⊢
  split at h
  · rename_i o ho
    refine⟨o,ho,?_⟩
    cases hs:Jh P n ops lz o x with
    |none=>rw[hs] at h;subst h;exact hC.elim
    |some q=>obtain⟨y,D⟩:=q;rw[hs] at h;subst h;rfl
  · subst h;exact hC.elim
theorem Bd (i:Nat) (lz:List Nat) (hC:Bn C) (next:SG P n ops B F KK F0 E fuel (listed.setIfInBounds i true) (stR (Kc P n ops lz i x))) (h:U5 (Kc P n ops lz i x)=C:=by kernel_rfl):SN P n ops B F KK F0 E fuel listed i x:=by
  obtain⟨o,h1,h2⟩:=Wt h hC
  exact Q46 i lz h1 h2 hC next
theorem Dc (i:Nat) (lz:List Nat) (hC:Bn C) (next:SG P n ops B F KK F0 E fuel (listed.setIfInBounds i true) (stR (Kc P n ops lz i x))) (hr:Region.ready .any ops listed=[i]:=by kernel_rfl) (h:U5 (Kc P n ops lz i x)=C:=by kernel_rfl):SG P n ops B F KK F0 E (fuel+1) listed x:=by
  obtain⟨o,h1,h2⟩:=Wt h hC
  exact X7t i lz hr h1 h2 hC next
theorem Az (ts:List Nat) (next:SG P n ops B F KK F0 E fuel listed ⟨W3 ts x.s,x.h,x.nx⟩) (h:W4 ts x.s=true:=by kernel_rfl):SG P n ops B F KK F0 E fuel listed x:=by
  unfold W4 at h
  unfold W3 at next
  split at h
  · rename_i r hr
    rw[hr] at next
    exact Vv ts hr next
  · cases h
theorem De (lz is ts : List Nat) (hC : Bn C) (next : SG P n ops B F KK F0 E fuel (lsL (Mc P E n ops lz is ts listed x)) (stL (Mc P E n ops lz is ts listed x))) (hs : Region.noSelect ops = true := by kernel_rfl) (hf : fuel' = fuel + is.length := by kernel_rfl)
    (h:X5a (Mc P E n ops lz is ts listed x)=C:=by kernel_rfl):SG P n ops B F KK F0 E fuel' listed x:=by
  cases hq:Mc P E n ops lz is ts listed x with
  |none=>rw[hq] at h;subst h;exact hC.elim
  |some q =>
    obtain⟨y,D,L⟩:=q
    rw[hq] at h next
    subst h
    exact X7v is ts hs hq hf hC next
theorem Bg {E':Bool} {fuel':Nat} {listed':Array Bool} {x':St} (m:SG P n ops B F KK F0 E' fuel' listed' x') (hE:E'=E:=by kernel_rfl) (hf:fuel'=fuel:=by kernel_rfl) (hl:listed'=listed:=by kernel_rfl) (hx:x'=x:=by kernel_rfl):SG P n ops B F KK F0 E fuel listed x:=X7u m hE hf hl hx
end
end Sv
end
section
open Go Go.RowKit
namespace Sv
noncomputable def mis:List (AV × AV × Nat)→Option (List (Int × Int))
  |[]=>some []
  |(.int .i64 k,.int .i64 a,_)::r=>match mis r with
    |some l=>some ((k,a)::l)
    |none=>none
  |_=>none
theorem Tf {φ:Phi}:∀{es:List (AV × AV × Nat)} {l:List MapEntry} {m:List (Int × Int)},MR φ es l→mis es=some m→l.map (fun e=>(e.key,e.val))=D6 I64 I64 m
  |[],_,_,h,k=>by cases k;simp only[MR] at h;subst h;rfl
  |(a,v,c)::r,_,_,h,k=>by
    simp only[MR] at h
    obtain⟨e,l',rfl,h1,h2,_,h4⟩:=h
    unfold mis at k
    split at k
    · cases ‹_=[]›
    · rename_i q
      cases q
      split at k
      · rename_i hm
        cases k
        simp only[VR] at h1 h2
        simp only[List.map_cons,D6,Tf h4 hm,h1,h2]
      · cases k
    · cases k
theorem MR.snoc {φ:Phi} {a v:AV} {e:MapEntry} (h1:VR φ a e.key) (h2:VR φ v e.val):∀{es:List (AV × AV × Nat)} {l:List MapEntry},MR φ es l→MR φ (es++[(a,v,e.born)]) (l++[e])
  |[],_,h=>by simp only[MR] at h;subst h;simp only[List.nil_append,MR];exact⟨e,[],rfl,h1,h2,rfl,rfl⟩
  |(b,u,c)::r,_,h=>by
    simp only[MR] at h
    obtain⟨e',l',rfl,k1,k2,k3,k4⟩:=h
    simp only[List.cons_append,MR]
    exact⟨e',_,rfl,k1,k2,k3,MR.snoc h1 h2 k4⟩
section
variable {P : Program} {B : Bas} {w : World} {F : Cx} {n : Nat} {φ : Phi} {σ : Nat → Value} {K : Exit → St → Prop} {x : St} {ops : Array Oper}
theorem Q42 {rest : List Oper} {t kt et : TypeId} {X I Y : Operand} {ty : TypeId} {ps : String} {af : Array Edge} {g : Option (Nat × Bool)} {b c : Nat} {es : List (AV × AV × Nat)} {m : List (Int × Int)} {k a : Int}
    (hg:Dh ops x.s g=true) (hX:evA x.s X=some (.map b)) (hI:evA x.s I=some (.int .i64 k)) (hY:evA x.s Y=some (.int .i64 a)) (hb:Bh b x.h=some (.map es c)) (hm:mis es=some m) (hn:Bx m k=none)
    (ht:P.underlying t=some (.map kt et)) (hk:P.underlying kt=some (.int .i64)) (next:SO P n ops rest B F K ⟨x.s,Ch b (.map (es++[(.int .i64 k,.int .i64 a,c)]) (c+1)) x.h,x.nx⟩):SO P n ops (⟨none,.insert t X I Y,ty,ps,af,g⟩::rest) B F K x:=by
  intro φ σ w hx
  have v1:=hx.fr.ev _ _ hX
  have v2:=hx.fr.ev _ _ hI
  have v3:=hx.fr.ev _ _ hY
  simp only[VR] at v1 v2 v3
  obtain⟨x0,κ,e0,v1⟩:=v1
  obtain⟨x1,κ1,l,h1,h2,h3⟩:=hx.rel.obj b _ hb
  rw[e0] at h1;cases h1
  have he:=Tf h3 hm
  obtain⟨r,f1,f2,f3⟩:=Sc (Tl hk) k l.toList m he w
  rw[hn] at f2
  have hc:=(Tl hk).check false 9999 k w
  have hlt:x0 < w.heap.size:=Fc h2
  cases r with
  |some p=>simp at f2
  |none =>
    refine Lb (w':={ w with heap:=w.heap.setIfInBounds x0 (.map (l.push { key:=I64 k,val:=I64 a,born:=c }) (c+1)) }) (Df hx.fr hg) ?_ (next φ _ _ ⟨hx.fr,?_,hx.dom,hx.old,hx.new,hx.base⟩)
    · have v2':ev n σ I=I64 k:=v2
      have v3':ev n σ Y=I64 a:=v3
      simp[execOp,v1,v2',v3',Instr.mapUpdate,run_underlying ht,getObj,setObj,Sem.run,h2,hc,f1,go_sem]
    · refine hx.rel.set hb rfl rfl e0 rfl rfl rfl (by simp) (fun j hj=>by simp[Array.getElem?_setIfInBounds,Ne.symm hj]) ⟨x0,κ,_,e0,(by simp[hlt];rfl),?_⟩
      rw[Array.toList_push]
      exact MR.snoc (e:={ key:=I64 k,val:=I64 a,born:=c }) (by simp only[VR]) (by simp only[VR]) h3
theorem X7h {rest : List Oper} {t kt et : TypeId} {X I : Operand} {dst : Option Tmp} {ty : TypeId} {ps : String} {af : Array Edge} {g : Option (Nat × Bool)} {b c : Nat} {es : List (AV × AV × Nat)} {m : List (Int × Int)} {k r : Int} {s' : Fr}
    (hg:Dh ops x.s g=true) (hX:evA x.s X=some (.map b)) (hI:evA x.s I=some (.int .i64 k)) (hb:Bh b x.h=some (.map es c)) (hm:mis es=some m)
    (ht:P.underlying t=some (.map kt et)) (hk:P.underlying kt=some (.int .i64)) (hz:∀w,(zeroValue et).run P w = .ok (.int .i64 0) w) (hr:(Bx m k).getD 0=r)
    (hp:B6 n dst (.int .i64 r) x.s=some s') (next:SO P n ops rest B F K ⟨s',Da b x.h,x.nx⟩):SO P n ops (⟨dst,.lookup t X I false,ty,ps,af,g⟩::rest) B F K x:=by
  intro φ σ w hx
  have v1:=hx.fr.ev _ _ hX
  have v2:=hx.fr.ev _ _ hI
  simp only[VR] at v1 v2
  obtain⟨x0,κ,e0,v1⟩:=v1
  obtain⟨x1,κ1,l,h1,h2,h3⟩:=hx.rel.obj b _ hb
  rw[e0] at h1;cases h1
  have he:=Tf h3 hm
  refine Db (Df hx.fr hg) (Vx (enc:=I64) (val:=I64) (k:=k) (m:=m) v1 v2 ⟨_,_,h2,he⟩ (Tl hk) ht hz) (next φ _ w ⟨hx.fr.put hp ?_,hx.rel.del b,hx.dom,hx.old,hx.new,hx.base⟩)
  rw[←hr]
  cases Bx m k<;>simp[VR,I64]
end
end Sv
end
section
open Go Go.RowKit
def DepT.name:DepT→List UInt8 | .mk _ nm _ _ _=>nm
def DepT.op:DepT→Int | .mk _ _ op _ _=>op
def DepT.evr:DepT→List UInt8 | .mk _ _ _ ev _=>ev
def DepT.args:DepT→List DepT | .mk _ _ _ _ a=>a
namespace Sv
mutual
noncomputable def Ux:DepT→AV
  |.mk k nm op ev args => .agg [.int .i64 k,.str nm,.int .i64 op,.str ev,.row 5 args.length (depAt args)]
noncomputable def depAt:List DepT→Nat→AV
  |[],_=>Bp
  |d::_,0=>Ux d
  |_::r,i+1=>depAt r i
end
noncomputable def Ak (d:DepT):AV:=.agg [.int .i64 d.kind,.str d.name,.int .i64 d.op,.str d.evr,.row 5 d.args.length (depAt d.args)]
theorem X42 (d:DepT):Ux d=Ak d:=by cases d;unfold Ux;rfl
theorem Uz:∀{l:List DepT} {i:Nat},i < l.length→depAt l i=Ak (nth l i)
  |[],_,h=>by simp at h
  |d::r,0,_=>by unfold depAt;exact X42 d
  |d::r,i+1,h=>by
    unfold depAt
    exact Uz (l:=r) (by simpa using h)
noncomputable abbrev Dy (l:List DepT):AV:=Ac 5 Ak l
theorem Ho (l:List DepT):Imp (.row 5 l.length (depAt l)) (Dy l):=Imp.row fun i hi=>Imp.of_eq (Uz hi)
theorem Oa (l:List DepT):Imp (Dy l) (.row 5 l.length (depAt l)):=Imp.row fun i hi=>Imp.of_eq (Uz hi).symm
theorem VRl.of_imp {a b:AV} {l:List AV} (h:Imp a b):∀{p:List AV} {φ:Phi} {vs:List Value},VRl φ (p++a::l) vs→VRl φ (p++b::l) vs
  |[],φ,vs,k=>by
    obtain⟨v,vs',rfl,h1,h2⟩:=VRl.cons_inv (a:=a) (l:=l) k
    exact VRl.cons (h φ v h1) h2
  |x::p,φ,vs,k=>by
    obtain⟨v,vs',rfl,h1,h2⟩:=VRl.cons_inv (a:=x) (l:=p++a::l) k
    exact VRl.cons h1 (VRl.of_imp h h2)
theorem Imp.agg {a b:AV} {p l:List AV} (h:Imp a b):Imp (.agg (p++a::l)) (.agg (p++b::l)):=by
  intro φ v k
  simp only[VR] at k ⊢
  obtain⟨vs,h1,h2⟩:=k;exact⟨vs,VRl.of_imp h h1,h2⟩
theorem X41 (d:DepT):Imp (Ak d) (.agg [.int .i64 d.kind,.str d.name,.int .i64 d.op,.str d.evr,Dy d.args]):=Imp.agg (p:=[.int .i64 d.kind,.str d.name,.int .i64 d.op,.str d.evr]) (Ho d.args)
theorem Q2z (d:DepT):Imp (.agg [.int .i64 d.kind,.str d.name,.int .i64 d.op,.str d.evr,Dy d.args]) (Ak d):=Imp.agg (p:=[.int .i64 d.kind,.str d.name,.int .i64 d.op,.str d.evr]) (Oa d.args)
theorem Gy {d:DepT} {i:Nat} (h:i < d.args.length):(nth d.args i).size < d.size:=by
  cases d with
  |mk k nm op ev args =>
    have:=K7 (l:=args) (i:=i) h
    show(nth args i).size < (DepT.mk k nm op ev args).size
    simp only[DepT.size];omega
theorem Qw {C:DepT→Prop} (h:∀d,(∀i,i < d.args.length→C (nth d.args i))→C d) (d:DepT):C d:=by
  have key:∀n d,d.size≤n→C d:=by
    intro n
    induction n with
    |zero=>intro d hd;cases d;unfold DepT.size at hd;omega
    |succ n ih=>intro d hd;exact h d fun i hi=>ih _ (by have:=Gy hi;omega)
  exact key d.size d (Nat.le_refl _)
end Sv
end
section
open Go Go.RowKit
namespace Sv
attribute [local irreducible] SW SO Bn
set_option maxHeartbeats 1000000
set_option maxRecDepth 100000
theorem X1k (ls : List (List UInt8)) (s : List UInt8) (hl : ls.length ≤ 4611686018427387904) :
  FnV Tryz.prog 147 [(C4 ls),(.str s)] (.int .i64 (E0 ls s 0)):=by
 refine A5 [.tmp 4] Tryz.func147 rfl Tryz.ntmps147 rfl rfl (fun B F hF=>?_)
 refine Aa [] [0,1] ?_
 refine Ad ?_
 refine Aa [] [0,1,7,8] ?_
 refine A1 ?_
 refine Bz (fun g y=>∃(i:Nat),i≤ls.length∧E0 ls s 0=E0 (ls.drop i) s i∧y=⟨[(0,(C4 ls)),(1,(.str s)),(7,(.int .i64 ((ls.length:Int)))),(8,(.int .i64 ((i:Int))))],[],0⟩∧g=ls.length-i) [0,1,7,8] 0 _ (by omega) ⟨0,(by omega),(by rfl),(by kernel_rfl),rfl⟩ ?_
 rintro g1 y1 ⟨i,f1_1,f1_2,rfl,rfl⟩
 refine Aa [] [0,1,7,8,9] ?_
 refine Ad ?_
 refine A6 (p:=(i:Int) < (ls.length:Int)) (by kernel_rfl) (fun c1=>?_) (fun c1=>?_)
 ·refine Ai ?_
  refine Ad ?_
  refine A1 ?_
  refine Aa [] [0,1,5,7,8] ?_
  refine Af [] [0,1,5,7,8,16] [] hk0 v0 (cc 3 (p:=(0≤(i:Int)∧i < ls.length)) (by omega)<|c0) ?_
  refine A6 (p:=s=nth ls i) (by kernel_rfl) (fun c2=>?_) (fun c2=>?_)
  ·refine Aa [] [4] ?_
   refine Ah ?_
   refine RK wR [(.int .i64 ((i:Int)))] ?_
   exact Same.of_eq (by rw[f1_2,V6 s (by omega),if_pos c2];rfl)
  ·refine Ai ?_
   refine Ap ?_
   refine Av 0 [] [0,1,7,8] [] hk0 v0 (cc 0 (p:=(-9223372036854775808≤(i:Int)+1∧(i:Int)+1≤9223372036854775807)) (by omega)<|c0) ?_
   refine⟨by kernel_rfl,_,?_,i+1,?_,?_,(by kernel_rfl),rfl⟩
   ·omega
   ·omega
   ·rw[f1_2,V6 s (by omega),if_neg c2]
 ·refine Bt ?_
  refine Aa [] [4] ?_
  refine Ah ?_
  refine RK wR [(.int .i64 (-1))] ?_
  exact Same.of_eq (by rw[f1_2,List.drop_of_length_le (by omega)];rfl)
theorem Q25 (ls : List (List UInt8)) (s : List UInt8) (hl : ls.length ≤ 4611686018427387904) :
  FnV Tryz.prog 98 [(C4 ls),(.str s)] (.bool (decide (0≤E0 ls s 0))):=by
 refine A5 [.tmp 4] Tryz.func98 rfl Tryz.ntmps98 rfl rfl (fun B F hF=>?_)
 refine Aa [] [0,1] ?_
 refine Af [] [4] [] (hk 2 X37 (X1k ls s hl)<|hk0) v0 c0 ?_
 refine Ah ?_
 refine RK wR [(.bool (decide (0≤(E0 ls s 0))))] ?_
 exact Same.of_eq (by first|rfl|(simp only[An];simp_all))
theorem Q6r  :
  FnV Tryz.prog 99 [] (C4 signsL):=by
 refine A5 [.tmp 0] Tryz.func99 rfl Tryz.ntmps99 rfl rfl (fun B F hF=>?_)
 refine Aa [] [] ?_
 refine Aa [] [0] ?_
 refine Ah ?_
 refine RK wR [(.row 1 8 (fun ix=>(E3 1 8 [(.str []),(.str ([60])),(.str ([61])),(.str ([60,61])),(.str ([62])),(.str ([60,62])),(.str ([62,61])),(.str ([60,61,62]))]).getD ix Bp))] ?_
 exact(Imp.list (f:=AV.str) (l:=signsL) rfl).same
theorem Q5o  :
  FnV Tryz.prog 100 [] (C4 Lh):=by
 refine A5 [.tmp 0] Tryz.func100 rfl Tryz.ntmps100 rfl rfl (fun B F hF=>?_)
 refine Aa [] [] ?_
 refine Aa [] [0] ?_
 refine Ah ?_
 refine RK wR [(.row 1 7 (fun ix=>(E3 1 7 [(.str []),(.str []),(.str ([97,110,100])),(.str ([111,114])),(.str ([105,102])),(.str ([119,105,116,104])),(.str ([119,105,116,104,111,117,116]))]).getD ix Bp))] ?_
 exact(Imp.list (f:=AV.str) (l:=Lh) rfl).same
theorem Rl (l : List UInt8) (hl : l.length ≤ 9223372036854775807) :
  FnV Tryz.prog 45 [(.str l)] (.bool (Bq l)):=by
 have hp:l=[]∨0 < l.length:=by cases l<;>simp
 refine A5 [.tmp 2] Tryz.func45 rfl Tryz.ntmps45 rfl rfl (fun B F hF=>?_)
 refine Aa [] [0] ?_
 refine Ad ?_
 obtain⟨b1,hb1⟩:∃b,b=(decide (l=[])):=⟨_,rfl⟩
 obtain⟨b2,hb2⟩:∃b,b=(b1||(decide (60 < (l.length:Int)))):=⟨_,rfl⟩
 obtain⟨b3,hb3⟩:∃b,b=(b2||(decide (((As l 0).toNat:Int)=40))):=⟨_,rfl⟩
 obtain⟨b4,hb4⟩:∃b,b=(b3||(decide (((As l 0).toNat:Int)=41))):=⟨_,rfl⟩
 obtain⟨b5,hb5⟩:∃b,b=(b4||(decide (l=[101,108,115,101]))):=⟨_,rfl⟩
 obtain⟨b6,hb6⟩:∃b,b=(b5||(decide (0≤E0 signsL l 0))):=⟨_,rfl⟩
 have qh1:(((!b1)=true→(!b1)=true))∧(((!b1)=true→(!b1)=true))∧((b1=false→(!b1)=true))∧(((!b2)=true→((!b2)=true)∧(0≤(0:Int)∧0 < l.length)))∧(((!b2)=true→(!b2)=true))∧((b2=false→(!b2)=true))∧(((!b3)=true→((!b3)=true)∧(0≤(0:Int)∧0 < l.length)))∧(((!b3)=true→(!b3)=true))∧((b3=false→(!b3)=true))∧(((!b4)=true→(!b4)=true))∧((b4=false→(!b4)=true)):=by
  rcases hp with hp|hp<;>simp_all
 refine Af [9,10,11,14,15,16,19,20,21,24,25,29,34] [0,36] [] (hkg 22 (!b5) X2u (fun cg=>Q6r)<|hkg 24 (!b5) Q1p (fun cg=>(Q25 signsL l (by decide)))<|hkg 27 (!b6) X4w (fun cg=>Q5o)<|hkg 29 (!b6) Q1p (fun cg=>(Q25 Lh l (by decide)))<|hk0) (vk 3 8 (a:=.bool (decide (l=[]))) (b:=.bool b1) (Imp.of_eq (by rw[hb1]))<|vk 8 13 (a:=.bool (b1||(decide (60 < (l.length:Int))))) (b:=.bool b2) (Imp.of_eq (by rw[hb2]))<|vk 12 17 (a:=.bool (b2||(decide (((As l 0).toNat:Int)=40)))) (b:=.bool b3) (Imp.of_eq (by rw[hb3]))<|vk 17 22 (a:=.bool (b3||(decide (((As l 0).toNat:Int)=41)))) (b:=.bool b4) (Imp.of_eq (by rw[hb4]))<|vk 22 27 (a:=.bool (b4||(decide (l=[101,108,115,101])))) (b:=.bool b5) (Imp.of_eq (by rw[hb5]))<|vk 27 32 (a:=.bool (b5||(decide (0≤E0 signsL l 0)))) (b:=.bool b6) (Imp.of_eq (by rw[hb6]))<|v0) (cc 4 (p:=((!b1)=true→(!b1)=true)) qh1.1<|cc 5 (p:=((!b1)=true→(!b1)=true)) qh1.2.1<|cc 6 (p:=(b1=false→(!b1)=true)) qh1.2.2.1<|cc 9 (p:=((!b2)=true→((!b2)=true)∧(0≤(0:Int)∧0 < l.length))) qh1.2.2.2.1<|cc 10 (p:=((!b2)=true→(!b2)=true)) qh1.2.2.2.2.1<|cc 11 (p:=(b2=false→(!b2)=true)) qh1.2.2.2.2.2.1<|cc 14 (p:=((!b3)=true→((!b3)=true)∧(0≤(0:Int)∧0 < l.length))) qh1.2.2.2.2.2.2.1<|cc 15 (p:=((!b3)=true→(!b3)=true)) qh1.2.2.2.2.2.2.2.1<|cc 16 (p:=(b3=false→(!b3)=true)) qh1.2.2.2.2.2.2.2.2.1<|cc 19 (p:=((!b4)=true→(!b4)=true)) qh1.2.2.2.2.2.2.2.2.2.1<|cc 20 (p:=(b4=false→(!b4)=true)) qh1.2.2.2.2.2.2.2.2.2.2<|cc 24 (p:=(!b5)=true→(!b5)=true∧(!b5)=true) (by simp)<|cc 25 (p:=(b5=false→(!b5)=true)) (by simp)<|cc 29 (p:=(!b6)=true→(!b6)=true∧(!b6)=true) (by simp)<|cc 30 (p:=(b6=false→(!b6)=true)) (by simp)<|c0) ?_
 refine A8 (q:=b6||(decide (0≤E0 Lh l 0))) (by kernel_rfl) (fun c1=>?_) (fun c1=>?_)
 ·subst hb6 hb5 hb4 hb3 hb2 hb1
  try simp only[Ao] at c1
  refine Aa [] [2] ?_
  refine Ah ?_
  refine RK wR [(.bool false)] ?_
  have h0:Gl l=true:=by
   unfold Gl
   rcases c1 with (((((h|h)|h)|h)|h)|h)|h<;>first|(simp[h];done)|(have h':60 < l.length:=(by omega);simp[h'];done)|(have h':(As l 0).toNat=40:=(by omega);simp[h'];done)|(have h':(As l 0).toNat=41:=(by omega);simp[h'];done)
  exact Same.of_eq (by simp only[An];rw[Bq,h0];rfl)
 ·subst hb6 hb5 hb4 hb3 hb2 hb1
  try simp only[Ao] at c1
  have hnh:Gl l=false:=by
   unfold Gl
   simp only[Bool.or_eq_false_iff,decide_eq_false_iff_not]
   exact⟨c1.1.1.1.1.1.1,by omega,by omega,by omega,c1.1.1.2,c1.1.2,c1.2⟩
  refine Ai ?_
  refine Aa [] [0,3] ?_
  refine Ad ?_
  refine Aa [] [0,3,38,39] ?_
  refine A1 ?_
  refine Bz (fun g y=>∃(k:Nat) (n:Int),k≤l.length∧Gi l 0=Gi (l.drop k) n∧(0≤n∧n≤k)∧l.length≤60∧Gl l=false∧y=⟨[(0,(.str l)),(3,(.int .i64 n)),(38,(.int .i64 ((l.length:Int)))),(39,(.int .i64 ((k:Int))))],[],0⟩∧g=l.length-k) [0,3,38,39] 0 _ (by omega) ⟨0,0,(by omega),(by rfl),(by omega),(by exact Q01 hnh),(by exact hnh),(by kernel_rfl),rfl⟩ ?_
  rintro g1 y1 ⟨k,n,f1_1,f1_2,f1_3,f1_4,f1_5,rfl,rfl⟩
  refine Aa [] [0,3,38,39,40] ?_
  refine Ad ?_
  refine A6 (p:=(k:Int) < (l.length:Int)) (by kernel_rfl) (fun c2=>?_) (fun c2=>?_)
  ·refine Ai ?_
   refine Ad ?_
   refine A1 ?_
   refine Aa [] [0,3,4,38,39] ?_
   refine D0 (fun y=>¬((As l k).toNat < 33∨126 < (As l k).toNat)∧y=⟨[(0,(.str l)),(3,(.int .i64 ((if (As l k).toNat=40 then n+1 else if (As l k).toNat=41 then n-1 else n)))),(38,(.int .i64 ((l.length:Int)))),(39,(.int .i64 ((k:Int))))],[],0⟩) [0,3,38,39] 0 (by omega) ?_ ?_
   ·refine Af [] [0,3,5,38,39] [] hk0 v0 (cc 2 (p:=(0≤(k:Int)∧k < l.length)) (by omega)<|c0) ?_
    refine A1 ?_
    obtain⟨b7,hb7⟩:∃b,b=(decide (((As l k).toNat:Int) < 33)):=⟨_,rfl⟩
    obtain⟨b8,hb8⟩:∃b,b=(b7||(decide (126 < ((As l k).toNat:Int)))):=⟨_,rfl⟩
    refine Af (CS:=[(4,((!b7)=true→(!b7)=true)),(5,(b7=false→(!b7)=true))]) [49,50] [0,3,5,38,39,45] [] hk0 (vk 3 48 (a:=.bool (decide (((As l k).toNat:Int) < 33))) (b:=.bool b7) (Imp.of_eq (by rw[hb7]))<|vk 6 51 (a:=.bool (b7||(decide (126 < ((As l k).toNat:Int))))) (b:=.bool b8) (Imp.of_eq (by rw[hb8]))<|v0) (by refine cc _ ?_<|cc _ ?_ c0<;>simp) ?_
    refine A8 (q:=b8) (by kernel_rfl) (fun c3=>?_) (fun c3=>?_)
    ·subst hb8 hb7
     try simp only[Ao] at c3
     have hub:(As l k).toNat < 33∨126 < (As l k).toNat:=by omega
     refine Aa [] [2] ?_
     refine Ah ?_
     refine RK wR [(.bool false)] ?_
     exact Same.of_eq (by simp only[An];rw[Bq,f1_2,Ju (by omega),Gi,if_pos hub];simp)
    ·subst hb8 hb7
     try simp only[Ao] at c3
     have hub:¬((As l k).toNat < 33∨126 < (As l k).toNat):=by omega
     refine Aa [] [0,3,5,38,39,52] ?_
     refine A6 (p:=((As l k).toNat:Int)=40) (by kernel_rfl) (fun c4=>?_) (fun c4=>?_)
     ·refine Ap ?_
      refine Av 0 [] [0,3,38,39] [] hk0 v0 (cc 1 (p:=(-9223372036854775808≤n+1∧n+1≤9223372036854775807)) (by omega)<|c0) ?_
      refine⟨by kernel_rfl,?_,(Eq.trans (b:=(⟨[(0,(.str l)),(3,(.int .i64 (n+1))),(38,(.int .i64 ((l.length:Int)))),(39,(.int .i64 ((k:Int))))],[],0⟩:St)) (by kernel_rfl) (by rw[show(if (As l k).toNat=40 then n+1 else if (As l k).toNat=41 then n-1 else n)=n+1 from by(repeat' split)<;>omega]))⟩
      exact hub
     ·refine Aa [] [0,3,38,39,57] ?_
      refine A6 (p:=((As l k).toNat:Int)=41) (by kernel_rfl) (fun c5=>?_) (fun c5=>?_)
      ·refine Ap ?_
       refine Av 0 [] [0,3,38,39] [] hk0 v0 (cc 1 (p:=(-9223372036854775808≤n-1∧n-1≤9223372036854775807)) (by omega)<|c0) ?_
       refine⟨by kernel_rfl,?_,(Eq.trans (b:=(⟨[(0,(.str l)),(3,(.int .i64 (n-1))),(38,(.int .i64 ((l.length:Int)))),(39,(.int .i64 ((k:Int))))],[],0⟩:St)) (by kernel_rfl) (by rw[show(if (As l k).toNat=40 then n+1 else if (As l k).toNat=41 then n-1 else n)=n-1 from by(repeat' split)<;>omega]))⟩
       exact hub
      ·refine Ai ?_
       refine⟨by kernel_rfl,?_,(Eq.trans (b:=(⟨[(0,(.str l)),(3,(.int .i64 n)),(38,(.int .i64 ((l.length:Int)))),(39,(.int .i64 ((k:Int))))],[],0⟩:St)) (by kernel_rfl) (by rw[show(if (As l k).toNat=40 then n+1 else if (As l k).toNat=41 then n-1 else n)=n from by(repeat' split)<;>omega]))⟩
       exact hub
   ·rintro y1 ⟨hub,rfl⟩
    refine Aa [] [0,3,38,39,63] ?_
    refine A6 (p:=(if (As l k).toNat=40 then n+1 else if (As l k).toNat=41 then n-1 else n) < 0) (by kernel_rfl) (fun c6=>?_) (fun c6=>?_)
    ·refine Aa [] [2] ?_
     refine Ah ?_
     refine RK wR [(.bool false)] ?_
     exact Same.of_eq (by simp only[An];rw[Bq,f1_2,Pq (by omega) hub];simp only[if_pos c6];simp)
    ·refine Ai ?_
     refine Ap ?_
     refine Av 0 [] [0,3,38,39] [] hk0 v0 (cc 0 (p:=(-9223372036854775808≤(k:Int)+1∧(k:Int)+1≤9223372036854775807)) (by omega)<|c0) ?_
     refine⟨by kernel_rfl,_,?_,k+1,(if (As l k).toNat=40 then n+1 else if (As l k).toNat=41 then n-1 else n),?_,?_,?_,?_,?_,(by kernel_rfl),rfl⟩
     ·omega
     ·omega
     ·rw[f1_2,Pq (by omega) hub];simp only[if_neg c6]
     ·constructor<;>((repeat' split)<;>omega)
     ·exact f1_4
     ·exact f1_5
  ·refine Bt ?_
   refine Aa [] [2] ?_
   refine Ah ?_
   refine RK wR [(.bool (decide (n=0)))] ?_
   exact Same.of_eq (by simp only[An];rw[Bq,f1_5,f1_2,List.drop_of_length_le (by omega),Gi];simp)
theorem Q5r (s : List UInt8) :
  FnV Tryz.prog 151 [(.str s)] (.bool (Li s)):=by
 refine A5 [.tmp 2] Tryz.func151 rfl Tryz.ntmps151 rfl rfl (fun B F hF=>?_)
 refine Aa [] [0] ?_
 obtain⟨b1,hb1⟩:∃b,b=(decide (s=[97,110,100])):=⟨_,rfl⟩
 obtain⟨b2,hb2⟩:∃b,b=(b1||(decide (s=[111,114]))):=⟨_,rfl⟩
 obtain⟨b3,hb3⟩:∃b,b=(b2||(decide (s=[105,102]))):=⟨_,rfl⟩
 obtain⟨b4,hb4⟩:∃b,b=(b3||(decide (s=[101,108,115,101]))):=⟨_,rfl⟩
 obtain⟨b5,hb5⟩:∃b,b=(b4||(decide (s=[119,105,116,104]))):=⟨_,rfl⟩
 obtain⟨b6,hb6⟩:∃b,b=(b5||(decide (s=[119,105,116,104,111,117,116]))):=⟨_,rfl⟩
 refine Af (CS:=[(4,((!b1)=true→(!b1)=true)),(5,(b1=false→(!b1)=true)),(8,((!b2)=true→(!b2)=true)),(9,(b2=false→(!b2)=true)),(12,((!b3)=true→(!b3)=true)),(13,(b3=false→(!b3)=true)),(16,((!b4)=true→(!b4)=true)),(17,(b4=false→(!b4)=true)),(20,((!b5)=true→(!b5)=true)),(21,(b5=false→(!b5)=true))]) [6,7,10,11,14,15,18,19,22,23] [2] [] hk0 (vk 3 5 (a:=.bool (decide (s=[97,110,100]))) (b:=.bool b1) (Imp.of_eq (by rw[hb1]))<|vk 7 9 (a:=.bool (b1||(decide (s=[111,114])))) (b:=.bool b2) (Imp.of_eq (by rw[hb2]))<|vk 11 13 (a:=.bool (b2||(decide (s=[105,102])))) (b:=.bool b3) (Imp.of_eq (by rw[hb3]))<|vk 15 17 (a:=.bool (b3||(decide (s=[101,108,115,101])))) (b:=.bool b4) (Imp.of_eq (by rw[hb4]))<|vk 19 21 (a:=.bool (b4||(decide (s=[119,105,116,104])))) (b:=.bool b5) (Imp.of_eq (by rw[hb5]))<|vk 22 24 (a:=.bool (b5||(decide (s=[119,105,116,104,111,117,116])))) (b:=.bool b6) (Imp.of_eq (by rw[hb6]))<|v0) (by refine cc _ ?_<|cc _ ?_<|cc _ ?_<|cc _ ?_<|cc _ ?_<|cc _ ?_<|cc _ ?_<|cc _ ?_<|cc _ ?_<|cc _ ?_ c0<;>simp) ?_
 refine Ah ?_
 refine RK wR [(.bool b6)] ?_
 subst hb6 hb5 hb4 hb3 hb2 hb1
 exact Same.of_eq (by simp only[An];unfold Li;simp only[Bool.or_assoc])
theorem Q6s (s : List UInt8) :
  FnV Tryz.prog 152 [(.str s)] (.int .i64 (Fv s)):=by
 refine A5 [.tmp 2] Tryz.func152 rfl Tryz.ntmps152 rfl rfl (fun B F hF=>?_)
 refine Aa [] [0] ?_
 refine Ad ?_
 refine Aa [] [3] ?_
 refine A1 ?_
 refine Aa [] [3,4] ?_
 refine A6 (p:=s=[60]) (by kernel_rfl) (fun c1=>?_) (fun c1=>?_)
 ·refine Aa [] [2] ?_
  refine Ah ?_
  refine RK wR [(.int .i64 1)] ?_
  exact Same.of_eq (by simp only[An];congr 1;simp[Fv, *])
 ·refine Aa [] [3,6] ?_
  refine A6 (p:=s=[61]) (by kernel_rfl) (fun c2=>?_) (fun c2=>?_)
  ·refine Aa [] [2] ?_
   refine Ah ?_
   refine RK wR [(.int .i64 2)] ?_
   exact Same.of_eq (by simp only[An];congr 1;simp[Fv, *])
  ·refine Aa [] [3,8] ?_
   refine A6 (p:=s=[60,61]) (by kernel_rfl) (fun c3=>?_) (fun c3=>?_)
   ·refine Aa [] [2] ?_
    refine Ah ?_
    refine RK wR [(.int .i64 3)] ?_
    exact Same.of_eq (by simp only[An];congr 1;simp[Fv, *])
   ·refine Aa [] [3,10] ?_
    refine A6 (p:=s=[62]) (by kernel_rfl) (fun c4=>?_) (fun c4=>?_)
    ·refine Aa [] [2] ?_
     refine Ah ?_
     refine RK wR [(.int .i64 4)] ?_
     exact Same.of_eq (by simp only[An];congr 1;simp[Fv, *])
    ·refine Aa [] [3,12] ?_
     refine A6 (p:=s=[60,62]) (by kernel_rfl) (fun c5=>?_) (fun c5=>?_)
     ·refine Aa [] [2] ?_
      refine Ah ?_
      refine RK wR [(.int .i64 5)] ?_
      exact Same.of_eq (by simp only[An];congr 1;simp[Fv, *])
     ·refine Aa [] [3,14] ?_
      refine A6 (p:=s=[62,61]) (by kernel_rfl) (fun c6=>?_) (fun c6=>?_)
      ·refine Aa [] [2] ?_
       refine Ah ?_
       refine RK wR [(.int .i64 6)] ?_
       exact Same.of_eq (by simp only[An];congr 1;simp[Fv, *])
      ·refine Aa [] [16] ?_
       refine A6 (p:=s=[60,61,62]) (by kernel_rfl) (fun c7=>?_) (fun c7=>?_)
       ·refine Aa [] [2] ?_
        refine Ah ?_
        refine RK wR [(.int .i64 7)] ?_
        exact Same.of_eq (by simp only[An];congr 1;simp[Fv, *])
       ·refine Ai ?_
        refine Aa [] [2] ?_
        refine Ah ?_
        refine RK wR [(.int .i64 0)] ?_
        exact Same.of_eq (by simp only[An];congr 1;simp[Fv, *])
theorem Pf (l : List UInt8) (hl : l.length ≤ 9223372036854775807) :
  FnV Tryz.prog 96 [(.str l)] (.bool (Bq l)):=by
 have hp:l.length < 1∨0 < l.length:=by omega
 refine A5 [.tmp 2] Tryz.func96 rfl Tryz.ntmps96 rfl rfl (fun B F hF=>?_)
 refine Aa [] [0] ?_
 refine Af [] [0,3] [] (hk 1 X35 (Q5r l)<|hk0) v0 c0 ?_
 refine Ad ?_
 obtain⟨b1,hb1⟩:∃b,b=(decide ((l.length:Int) < 1)):=⟨_,rfl⟩
 obtain⟨b2,hb2⟩:∃b,b=(b1||(decide (60 < (l.length:Int)))):=⟨_,rfl⟩
 obtain⟨b3,hb3⟩:∃b,b=(b2||(decide (((As l 0).toNat:Int)=40))):=⟨_,rfl⟩
 obtain⟨b4,hb4⟩:∃b,b=(b3||(decide (((As l 0).toNat:Int)=41))):=⟨_,rfl⟩
 obtain⟨b5,hb5⟩:∃b,b=(b4||(Li l)):=⟨_,rfl⟩
 have qh1:(((!b1)=true→(!b1)=true))∧(((!b1)=true→(!b1)=true))∧((b1=false→(!b1)=true))∧(((!b2)=true→((!b2)=true)∧(0≤(0:Int)∧0 < l.length)))∧(((!b2)=true→(!b2)=true))∧((b2=false→(!b2)=true))∧(((!b3)=true→((!b3)=true)∧(0≤(0:Int)∧0 < l.length)))∧(((!b3)=true→(!b3)=true))∧((b3=false→(!b3)=true))∧((b4=false→(!b4)=true)):=by
  rcases hp with hp|hp<;>simp_all
 refine Af [12,13,14,17,18,19,22,23,24,27,30,32] [0,33] [] (hkg 23 (!b5) X34 (fun cg=>Q6s l)<|hk0) (vk 4 11 (a:=.bool (decide ((l.length:Int) < 1))) (b:=.bool b1) (Imp.of_eq (by rw[hb1]))<|vk 9 16 (a:=.bool (b1||(decide (60 < (l.length:Int))))) (b:=.bool b2) (Imp.of_eq (by rw[hb2]))<|vk 13 20 (a:=.bool (b2||(decide (((As l 0).toNat:Int)=40)))) (b:=.bool b3) (Imp.of_eq (by rw[hb3]))<|vk 18 25 (a:=.bool (b3||(decide (((As l 0).toNat:Int)=41)))) (b:=.bool b4) (Imp.of_eq (by rw[hb4]))<|vk 22 29 (a:=.bool (b4||(Li l))) (b:=.bool b5) (Imp.of_eq (by rw[hb5]))<|v0) (cc 5 (p:=((!b1)=true→(!b1)=true)) qh1.1<|cc 6 (p:=((!b1)=true→(!b1)=true)) qh1.2.1<|cc 7 (p:=(b1=false→(!b1)=true)) qh1.2.2.1<|cc 10 (p:=((!b2)=true→((!b2)=true)∧(0≤(0:Int)∧0 < l.length))) qh1.2.2.2.1<|cc 11 (p:=((!b2)=true→(!b2)=true)) qh1.2.2.2.2.1<|cc 12 (p:=(b2=false→(!b2)=true)) qh1.2.2.2.2.2.1<|cc 15 (p:=((!b3)=true→((!b3)=true)∧(0≤(0:Int)∧0 < l.length))) qh1.2.2.2.2.2.2.1<|cc 16 (p:=((!b3)=true→(!b3)=true)) qh1.2.2.2.2.2.2.2.1<|cc 17 (p:=(b3=false→(!b3)=true)) qh1.2.2.2.2.2.2.2.2.1<|cc 20 (p:=(b4=false→(!b4)=true)) qh1.2.2.2.2.2.2.2.2.2<|cc 23 (p:=(!b5)=true→(!b5)=true) (by simp)<|cc 24 (p:=((!b5)=true→(!b5)=true)) (by simp)<|cc 25 (p:=(b5=false→(!b5)=true)) (by simp)<|c0) ?_
 refine A8 (q:=b5||(!decide ((Fv l)=0))) (by kernel_rfl) (fun c1=>?_) (fun c1=>?_)
 ·subst hb5 hb4 hb3 hb2 hb1
  try simp only[Ao] at c1
  refine Aa [] [2] ?_
  refine Ah ?_
  refine RK wR [(.bool false)] ?_
  have h0:Gl l=true:=by
   rw[←Xg]
   unfold Pg
   rcases c1 with ((((h|h)|h)|h)|h)|h<;>first|(simp[h];done)|(have h':l.length < 1:=(by omega);simp[h'];done)|(have h':60 < l.length:=(by omega);simp[h'];done)|(have h':(As l 0).toNat=40:=(by omega);simp[h'];done)|(have h':(As l 0).toNat=41:=(by omega);simp[h'];done)|(have h':¬Fv l=0:=(by omega);simp[h'];done)
  exact Same.of_eq (by simp only[An];rw[Bq,h0];rfl)
 ·subst hb5 hb4 hb3 hb2 hb1
  try simp only[Ao] at c1
  have hnh:Gl l=false:=by
   rw[←Xg]
   unfold Pg
   simp only[Bool.or_eq_false_iff,decide_eq_false_iff_not]
   exact⟨by omega,by omega,by omega,by omega,c1.1.2,by omega⟩
  refine Ai ?_
  refine Aa [] [0,4] ?_
  refine Ad ?_
  refine Aa [] [0,4,5] ?_
  refine A1 ?_
  refine Bz (fun g y=>∃(k:Nat) (n:Int),k≤l.length∧Gi l 0=Gi (l.drop k) n∧(0≤n∧n≤k)∧l.length≤60∧Gl l=false∧y=⟨[(0,(.str l)),(4,(.int .i64 n)),(5,(.int .i64 ((k:Int))))],[],0⟩∧g=l.length-k) [0,4,5] 0 _ (by omega) ⟨0,0,(by omega),(by rfl),(by omega),(by exact Q01 hnh),(by exact hnh),(by kernel_rfl),rfl⟩ ?_
  rintro g1 y1 ⟨k,n,f1_1,f1_2,f1_3,f1_4,f1_5,rfl,rfl⟩
  refine Ad ?_
  refine Aa [] [0,4,5,37] ?_
  refine A6 (p:=(k:Int) < (l.length:Int)) (by kernel_rfl) (fun c2=>?_) (fun c2=>?_)
  ·refine Ai ?_
   refine Ad ?_
   refine A1 ?_
   refine Ad ?_
   obtain⟨b6,hb6⟩:∃b,b=(decide (((As l k).toNat:Int) < 33)):=⟨_,rfl⟩
   refine Af (CS:=[(2,(0≤(k:Int)∧k < l.length)),(7,((!b6)=true→((!b6)=true∧(!b6)=true)∧(0≤(k:Int)∧k < l.length))),(8,((!b6)=true→(!b6)=true)),(9,(b6=false→(!b6)=true))]) [45,46,47,48] [0,4,5,49] [] hk0 (vk 5 44 (a:=.bool (decide (((As l k).toNat:Int) < 33))) (b:=.bool b6) (Imp.of_eq (by rw[hb6]))<|v0) (by refine cc _ ?_<|cc _ ?_<|cc _ ?_<|cc _ ?_ c0<;>(intros;simp_all;done)) ?_
   refine A8 (q:=b6||(decide (126 < ((As l k).toNat:Int)))) (by kernel_rfl) (fun c3=>?_) (fun c3=>?_)
   ·subst hb6
    try simp only[Ao] at c3
    have hub:(As l k).toNat < 33∨126 < (As l k).toNat:=by omega
    refine Aa [] [2] ?_
    refine Ah ?_
    refine RK wR [(.bool false)] ?_
    exact Same.of_eq (by simp only[An];rw[Bq,f1_2,Ju (by omega),Gi,if_pos hub];simp)
   ·subst hb6
    try simp only[Ao] at c3
    have hub:¬((As l k).toNat < 33∨126 < (As l k).toNat):=by omega
    refine Ai ?_
    refine D0 (fun y=>y=⟨[(0,(.str l)),(4,(.int .i64 ((if (As l k).toNat=40 then n+1 else n)))),(5,(.int .i64 ((k:Int))))],[],0⟩) [0,4,5] 0 (by omega) ?_ ?_
    ·refine Af [] [0,4,5,53] [] hk0 v0 (cc 2 (p:=(0≤(k:Int)∧k < l.length)) (by omega)<|c0) ?_
     refine A6 (p:=((As l k).toNat:Int)=40) (by kernel_rfl) (fun c4=>?_) (fun c4=>?_)
     ·refine Ap ?_
      refine Av 0 [] [0,4,5] [] hk0 v0 (cc 1 (p:=(-9223372036854775808≤n+1∧n+1≤9223372036854775807)) (by omega)<|c0) ?_
      refine⟨by kernel_rfl,(Eq.trans (b:=(⟨[(0,(.str l)),(4,(.int .i64 (n+1))),(5,(.int .i64 ((k:Int))))],[],0⟩:St)) (by kernel_rfl) (by rw[show(if (As l k).toNat=40 then n+1 else n)=n+1 from if_pos (by omega)]))⟩
     ·refine Ai ?_
      refine⟨by kernel_rfl,(Eq.trans (b:=(⟨[(0,(.str l)),(4,(.int .i64 n)),(5,(.int .i64 ((k:Int))))],[],0⟩:St)) (by kernel_rfl) (by rw[show(if (As l k).toNat=40 then n+1 else n)=n from if_neg (by omega)]))⟩
    ·rintro y1 rfl
     refine D0 (fun y=>y=⟨[(0,(.str l)),(4,(.int .i64 ((if (As l k).toNat=40 then n+1 else if (As l k).toNat=41 then n-1 else n)))),(5,(.int .i64 ((k:Int))))],[],0⟩) [0,4,5] 0 (by omega) ?_ ?_
     ·refine Af [] [0,4,5,59] [] hk0 v0 (cc 2 (p:=(0≤(k:Int)∧k < l.length)) (by omega)<|c0) ?_
      refine A6 (p:=((As l k).toNat:Int)=41) (by kernel_rfl) (fun c5=>?_) (fun c5=>?_)
      ·refine Ap ?_
       refine Av 0 [] [0,4,5] [] hk0 v0 (cc 1 (p:=(-9223372036854775808≤(if (As l k).toNat=40 then n+1 else n)-1∧(if (As l k).toNat=40 then n+1 else n)-1≤9223372036854775807)) (by omega)<|c0) ?_
       refine⟨by kernel_rfl,(Eq.trans (b:=(⟨[(0,(.str l)),(4,(.int .i64 ((if (As l k).toNat=40 then n+1 else n)-1))),(5,(.int .i64 ((k:Int))))],[],0⟩:St)) (by kernel_rfl) (by rw[show(if (As l k).toNat=40 then n+1 else if (As l k).toNat=41 then n-1 else n)=(if (As l k).toNat=40 then n+1 else n)-1 from by(repeat' split)<;>omega]))⟩
      ·refine Ai ?_
       refine⟨by kernel_rfl,(Eq.trans (b:=(⟨[(0,(.str l)),(4,(.int .i64 ((if (As l k).toNat=40 then n+1 else n)))),(5,(.int .i64 ((k:Int))))],[],0⟩:St)) (by kernel_rfl) (by rw[show(if (As l k).toNat=40 then n+1 else if (As l k).toNat=41 then n-1 else n)=(if (As l k).toNat=40 then n+1 else n) from by(repeat' split)<;>omega]))⟩
     ·rintro y2 rfl
      refine Aa [] [0,4,5,63] ?_
      refine A6 (p:=(if (As l k).toNat=40 then n+1 else if (As l k).toNat=41 then n-1 else n) < 0) (by kernel_rfl) (fun c6=>?_) (fun c6=>?_)
      ·refine Aa [] [2] ?_
       refine Ah ?_
       refine RK wR [(.bool false)] ?_
       exact Same.of_eq (by simp only[An];rw[Bq,f1_2,Pq (by omega) hub];simp only[if_pos c6];simp)
      ·refine Ai ?_
       refine Ap ?_
       refine Av 0 [] [0,4,5] [] hk0 v0 (cc 1 (p:=(-9223372036854775808≤(k:Int)+1∧(k:Int)+1≤9223372036854775807)) (by omega)<|c0) ?_
       refine⟨by kernel_rfl,_,?_,k+1,(if (As l k).toNat=40 then n+1 else if (As l k).toNat=41 then n-1 else n),?_,?_,?_,?_,?_,(by kernel_rfl),rfl⟩
       ·omega
       ·omega
       ·rw[f1_2,Pq (by omega) hub];simp only[if_neg c6]
       ·constructor<;>((repeat' split)<;>omega)
       ·exact f1_4
       ·exact f1_5
  ·refine Bt ?_
   refine Aa [] [2] ?_
   refine Ah ?_
   refine RK wR [(.bool (decide (n=0)))] ?_
   exact Same.of_eq (by simp only[An];rw[Bq,f1_5,f1_2,List.drop_of_length_le (by omega),Gi];simp)
end Sv
end
section
open Go Go.RowKit
namespace Sv
attribute [local irreducible] SW SO Bn
set_option maxHeartbeats 400000
set_option maxRecDepth 100000
theorem Ib:Au Tryz.prog 160:=Ay Tryz.func160 (by kernel_rfl) rfl
theorem Mk:Au Tryz.prog 161:=Ay Tryz.func161 (by kernel_rfl) rfl
theorem Hn:Au Tryz.prog 163:=Ay Tryz.func163 (by kernel_rfl) rfl
theorem Q18:Au Tryz.prog 215:=Ay Tryz.func215 (by kernel_rfl) rfl
theorem Qr:Au Tryz.prog 181:=Ay Tryz.func181 (by kernel_rfl) rfl
def Bi (c:UInt8):Bool:=decide (48≤c.toNat)&&decide (c.toNat≤57)
def B7 (c:UInt8):Bool:=(decide (97≤c.toNat)&&decide (c.toNat≤122))||(decide (65≤c.toNat)&&decide (c.toNat≤90))
def A9 (p:UInt8→Bool) (s:List UInt8):Nat:=(s.takeWhile p).length
theorem I5 (p:UInt8→Bool):∀s:List UInt8,A9 p s≤s.length
 |[]=>Nat.le_refl _
 |a::r=>by
  have:=I5 p r
  unfold A9 at this ⊢
  rw[List.takeWhile_cons]
  split<;>simp<;>omega
theorem Q22 {p:UInt8→Bool}:∀{s:List UInt8} {i:Nat},i < s.length→(∀j,j < i→p (As s j)=true)→p (As s i)=false→A9 p s=i
 |[],_,h,_,_=>by simp at h
 |a::r,0,_,_,h=>by
  have h:p a=false:=h
  unfold A9;rw[List.takeWhile_cons,h];rfl
 |a::r,i+1,hi,h,hp=>by
  have h0:p a=true:=h 0 (by omega)
  have:=Q22 (s:=r) (i:=i) (by simpa using hi) (fun j hj=>h (j+1) (by omega)) hp
  unfold A9 at this ⊢
  rw[List.takeWhile_cons,h0]
  simp[this]
theorem Q23 {p:UInt8→Bool}:∀{s:List UInt8},(∀j,j < s.length→p (As s j)=true)→A9 p s=s.length
 |[],_=>rfl
 |a::r,h=>by
  have h0:p a=true:=h 0 (by simp)
  have:=Q23 (s:=r) (fun j hj=>h (j+1) (by simpa using hj))
  unfold A9 at this ⊢
  rw[List.takeWhile_cons,h0]
  simp[this]
def F4 (a b:Bool) (g:Int):Int:=if (a&&!b)=true then g else if (b&&!a)=true then -g else 0
def Dv (s:List UInt8):Int:=if s=[]∨Bi (As s 0)=true then 0 else if (As s 0).toNat=126 then -1 else if B7 (As s 0)=true then (As s 0).toNat else 256+((As s 0).toNat:Int)
theorem I4 (c : UInt8) :
  FnV Tryz.prog 160 [(.int .u8 ((c.toNat:Int)))] (.bool (Bi c)):=by
 refine A5 [.tmp 2] Tryz.func160 rfl Tryz.ntmps160 rfl rfl (fun B F hF=>?_)
 refine Aa [] [0] ?_
 obtain⟨b1,hb1⟩:∃b,b=(decide (48≤(c.toNat:Int))):=⟨_,rfl⟩
 refine Af (CS:=[(4,(b1=true→b1=true)),(5,(b1=true→b1=true))]) [6,7] [2] [] hk0 (vk 3 5 (a:=.bool (decide (48≤(c.toNat:Int)))) (b:=.bool b1) (Imp.of_eq (by rw[hb1]))<|v0) (by refine cc _ ?_<|cc _ ?_ c0<;>simp) ?_
 refine Ah ?_
 refine RK wR [(.bool (b1&&(decide ((c.toNat:Int)≤57))))] ?_
 subst hb1
 refine Same.of_eq ?_
 simp only[An]
 congr 1
 unfold Bi
 rw[Bool.eq_iff_iff]
 simp only[Bool.and_eq_true,Bool.or_eq_true,decide_eq_true_eq]
 omega
theorem Nw (c : UInt8) :
  FnV Tryz.prog 161 [(.int .u8 ((c.toNat:Int)))] (.bool (B7 c)):=by
 refine A5 [.tmp 2] Tryz.func161 rfl Tryz.ntmps161 rfl rfl (fun B F hF=>?_)
 refine Aa [] [0] ?_
 obtain⟨b1,hb1⟩:∃b,b=(decide (97≤(c.toNat:Int))):=⟨_,rfl⟩
 obtain⟨b2,hb2⟩:∃b,b=(b1&&(decide ((c.toNat:Int)≤122))):=⟨_,rfl⟩
 obtain⟨b3,hb3⟩:∃b,b=(b2||((decide (65≤(c.toNat:Int)))&&(decide ((c.toNat:Int)≤90)))):=⟨_,rfl⟩
 refine Af (CS:=[(4,(b1=true→b1=true)),(5,(b1=true→b1=true)),(8,((!b2)=true→(!b2)=true)),(9,((!b2)=true→(!b2)=true)),(11,(((!b2)&&(decide (65≤(c.toNat:Int))))=true→((!b2)&&(decide (65≤(c.toNat:Int))))=true)),(12,((!b2)=true→((!b2)=true)∧((decide (65≤(c.toNat:Int)))=true→((!b2)&&(decide (65≤(c.toNat:Int))))=true))),(13,(b2=false→(!b2)=true))]) [6,7,10,11,12,13,14,15] [2] [] hk0 (vk 3 5 (a:=.bool (decide (97≤(c.toNat:Int)))) (b:=.bool b1) (Imp.of_eq (by rw[hb1]))<|vk 7 9 (a:=.bool (b1&&(decide ((c.toNat:Int)≤122)))) (b:=.bool b2) (Imp.of_eq (by rw[hb2]))<|vk 14 16 (a:=.bool (b2||((decide (65≤(c.toNat:Int)))&&(decide ((c.toNat:Int)≤90))))) (b:=.bool b3) (Imp.of_eq (by rw[hb3]))<|v0) (by refine cc _ ?_<|cc _ ?_<|cc _ ?_<|cc _ ?_<|cc _ ?_<|cc _ ?_<|cc _ ?_ c0<;>(intros;simp_all;done)) ?_
 refine Ah ?_
 refine RK wR [(.bool b3)] ?_
 subst hb3 hb2 hb1
 refine Same.of_eq ?_
 simp only[An]
 congr 1
 unfold B7
 rw[Bool.eq_iff_iff]
 simp only[Bool.and_eq_true,Bool.or_eq_true,decide_eq_true_eq]
 omega
theorem Ps (a b : Bool) (g : Int) (hg : -1 ≤ g ∧ g ≤ 1) :
  FnV Tryz.prog 181 [(.bool a),(.bool b),(.int .i64 g)] (.int .i64 (F4 a b g)):=by
 refine A5 [.tmp 6] Tryz.func181 rfl Tryz.ntmps181 rfl rfl (fun B F hF=>?_)
 refine Aa [] [0,1,2] ?_
 refine Ad ?_
 refine A1 ?_
 refine Af (CS:=[(3,(a=true→a=true)),(4,(a=true→a=true))]) [10,11] [0,1,2,7] [] hk0 v0 (by refine cc _ ?_<|cc _ ?_ c0<;>simp) ?_
 refine A8 (q:=a&&(!b)) (by kernel_rfl) (fun c1=>?_) (fun c1=>?_)
 ·try simp only[Ao] at c1
  refine Aa [] [6] ?_
  refine Ah ?_
  refine RK wR [(.int .i64 g)] ?_
  refine Same.of_eq ?_
  simp only[An]
  congr 1
  unfold F4
  cases a<;>cases b<;>first|rfl|(show 0-g = -g;omega)|(simp at c1;done)|(simp at c2;done)|contradiction
 ·try simp only[Ao] at c1
  refine Af (CS:=[(3,(b=true→b=true)),(4,(b=true→b=true))]) [17,18] [2,14] [] hk0 v0 (by refine cc _ ?_<|cc _ ?_ c0<;>simp) ?_
  refine A8 (q:=b&&(!a)) (by kernel_rfl) (fun c2=>?_) (fun c2=>?_)
  ·try simp only[Ao] at c2
   refine Af [] [6] [] hk0 v0 (cc 1 (p:=(-9223372036854775808≤0-g∧0-g≤9223372036854775807)) (by omega)<|c0) ?_
   refine Ah ?_
   refine RK wR [(.int .i64 (0-g))] ?_
   refine Same.of_eq ?_
   simp only[An]
   congr 1
   unfold F4
   cases a<;>cases b<;>first|rfl|(show 0-g = -g;omega)|(simp at c1;done)|(simp at c2;done)|contradiction
  ·try simp only[Ao] at c2
   refine Ai ?_
   refine Aa [] [6] ?_
   refine Ah ?_
   refine RK wR [(.int .i64 0)] ?_
   refine Same.of_eq ?_
   simp only[An]
   congr 1
   unfold F4
   cases a<;>cases b<;>first|rfl|(show 0-g = -g;omega)|(simp at c1;done)|(simp at c2;done)|contradiction
theorem Ie (s : List UInt8) (a : AV) (p : UInt8 → Bool) (hl : s.length ≤ 9223372036854775806) (ha : ∀ c : UInt8, FunV Tryz.prog a [.int .u8 (c.toNat : Int)] (.bool (p c))) :
  FnV Tryz.prog 163 [(.str s),(.clo a)] (.int .i64 ((A9 p s:Int))):=by
 refine A5 [.tmp 4] Tryz.func163 rfl Tryz.ntmps163 rfl rfl (fun B F hF=>?_)
 refine Aa [] [0,1] ?_
 refine Aa [] [0,1,5] ?_
 refine Ad ?_
 refine A1 ?_
 refine Bz (fun g y=>∃(i:Nat),i≤s.length∧(∀j,j < i→p (As s j)=true)∧y=⟨[(0,(.str s)),(1,(.clo a)),(5,(.int .i64 ((i:Int))))],[],0⟩∧g=s.length-i) [0,1,5] 0 _ (by omega) ⟨0,(by omega),(by exact fun j hj=>by omega),(by kernel_rfl),rfl⟩ ?_
 rintro g1 y1 ⟨i,f1_1,f1_2,rfl,rfl⟩
 refine Ad ?_
 refine Ad ?_
 refine Ap ?_
 obtain⟨b1,hb1⟩:∃b,b=(decide ((i:Int) < (s.length:Int))):=⟨_,rfl⟩
 refine Br 5 0 [] [0,1,5,10] [] hk0 v0 c0 ?_
 refine Ft 10 (a:=.bool (decide ((i:Int) < (s.length:Int)))) (.bool b1) (by kernel_rfl) (Imp.of_eq (by rw[hb1])) ?_
 refine Q3 b1 (fun c1=>?_) (fun c1=>?_)
 ·refine Ft 10 (a:=.bool b1) (.bool true) (by kernel_rfl) (Imp.of_eq (by rw[c1])) ?_
  refine Br 4 5 [] [0,1,5,10,11,14] [] hk0 v0 (cc 8 (p:=(0≤(i:Int)∧i < s.length)) (by(intros;simp_all;done))<|c0) ?_
  refine Fu (s':=[(0,(.str s)),(1,(.clo a)),(5,(.int .i64 ((i:Int)))),(10,(.bool true)),(11,(.clo a)),(14,(.int .u8 (((As s i).toNat:Int)))),(15,(.bool (p (As s i))))]) (a:=(.clo a)) (al:=[(.int .u8 (((As s i).toNat:Int)))]) (r:=(.bool (p (As s i)))) (by kernel_rfl) (by kernel_rfl) (by kernel_rfl) (by kernel_rfl) (by kernel_rfl) ((ha (As s i)).clo) (by kernel_rfl) ?_
  refine Av 10 [] [0,1,5,16] [] hk0 v0 c0 ?_
  refine A8 (q:=p (As s i)) (by kernel_rfl) (fun c2=>?_) (fun c2=>?_)
  ·subst hb1
   try simp only[Ao] at c2
   refine Ai ?_
   refine A1 ?_
   refine Ap ?_
   refine Av 0 [] [0,1,5] [] hk0 v0 (cc 1 (p:=(-9223372036854775808≤(i:Int)+1∧(i:Int)+1≤9223372036854775807)) (by omega)<|c0) ?_
   refine⟨by kernel_rfl,_,?_,i+1,?_,?_,(by kernel_rfl),rfl⟩
   ·simp_all;omega
   ·simp_all;omega
   ·intro j hj
    by_cases h:j=i
    ·subst h;assumption
    ·exact f1_2 j (by omega)
  ·subst hb1
   try simp only[Ao] at c2
   refine Bt ?_
   refine Aa [] [4] ?_
   refine Ah ?_
   refine RK wR [(.int .i64 ((i:Int)))] ?_
   exact Same.of_eq (by simp only[An];rw[Q22 (i:=i) (by simp_all) f1_2 (by simp_all)])
 ·refine Ft 10 (a:=.bool b1) (.bool false) (by kernel_rfl) (Imp.of_eq (by rw[c1])) ?_
  refine Av 5 [] [0,1,5,16] [] hk0 v0 c0 ?_
  refine Eh (by kernel_rfl) ?_
  refine Bt ?_
  refine Aa [] [4] ?_
  refine Ah ?_
  refine RK wR [(.int .i64 ((i:Int)))] ?_
  subst hb1
  exact Same.of_eq (by simp only[An];rw[Q23 (fun j hj=>f1_2 j (by simp_all;omega))];congr 2;simp_all;omega)
theorem Wd (s : List UInt8) :
  FnV Tryz.prog 215 [(.str s)] (.int .i64 (Dv s)):=by
 have hb:=(As s 0).toNat_lt
 have hp:s=[]∨0 < s.length:=by cases s<;>simp
 refine A5 [.tmp 2] Tryz.func215 rfl Tryz.ntmps215 rfl rfl (fun B F hF=>?_)
 refine Aa [] [0] ?_
 refine Ad ?_
 refine A1 ?_
 obtain⟨b1,hb1⟩:∃b,b=(decide (s=[])):=⟨_,rfl⟩
 have qh1:(((!b1)=true→((!b1)=true)∧(0≤(0:Int)∧0 < s.length))):=by
  rcases hp with hp|hp<;>first|(simp_all;done)|omega|(simp_all;omega)|(simp;omega)
 refine Af [7,8] [0,3] [] (hkg 5 (!b1) Ib (fun cg=>I4 (As s 0))<|hk0) (vk 3 6 (a:=.bool (decide (s=[]))) (b:=.bool b1) (Imp.of_eq (by rw[hb1]))<|v0) (cc 4 (p:=((!b1)=true→((!b1)=true)∧(0≤(0:Int)∧0 < s.length))) qh1<|cc 5 (p:=(!b1)=true→(!b1)=true) (by simp)<|cc 6 (p:=(b1=false→(!b1)=true)) (by simp)<|c0) ?_
 refine A8 (q:=b1||(Bi (As s 0))) (by kernel_rfl) (fun c1=>?_) (fun c1=>?_)
 ·subst hb1
  try simp only[Ao] at c1
  refine Aa [] [2] ?_
  refine Ah ?_
  refine RK wR [(.int .i64 0)] ?_
  refine Same.of_eq ?_
  simp only[An]
  congr 1
  unfold Dv
  rw[if_pos c1]
 ·subst hb1
  try simp only[Ao] at c1
  have qh2:((0≤(0:Int)∧0 < s.length)):=by
   rcases hp with hp|hp<;>first|(simp_all;done)|omega|(simp_all;omega)|(simp;omega)
  refine Af [] [0,11] [] hk0 v0 (cc 1 (p:=(0≤(0:Int)∧0 < s.length)) qh2<|c0) ?_
  refine A6 (p:=((As s 0).toNat:Int)=126) (by kernel_rfl) (fun c2=>?_) (fun c2=>?_)
  ·refine Aa [] [2] ?_
   refine Ah ?_
   refine RK wR [(.int .i64 (-1))] ?_
   refine Same.of_eq ?_
   simp only[An]
   congr 1
   unfold Dv
   rw[if_neg (by simp_all),if_pos (by omega)]
  ·have qh3 : ((0 ≤ (0 : Int) ∧ 0 < s.length)) := by
    rcases hp with hp|hp<;>first|(simp_all;done)|omega|(simp_all;omega)|(simp;omega)
   refine Af [] [0,15] [] (hk 2 Mk (Nw (As s 0))<|hk0) v0 (cc 1 (p:=(0≤(0:Int)∧0 < s.length)) qh3<|c0) ?_
   refine A8 (q:=B7 (As s 0)) (by kernel_rfl) (fun c3=>?_) (fun c3=>?_)
   ·try simp only[Ao] at c3
    have qh4:((0≤(0:Int)∧0 < s.length))∧((-9223372036854775808≤((As s 0).toNat:Int)∧((As s 0).toNat:Int)≤9223372036854775807)):=by
     rcases hp with hp|hp<;>first|(simp_all;done)|omega|(simp_all;omega)|(simp;omega)
    refine Af [] [2] [] hk0 v0 (cc 1 (p:=(0≤(0:Int)∧0 < s.length)) qh4.1<|cc 2 (p:=(-9223372036854775808≤((As s 0).toNat:Int)∧((As s 0).toNat:Int)≤9223372036854775807)) qh4.2<|c0) ?_
    refine Ah ?_
    refine RK wR [(.int .i64 (((As s 0).toNat:Int)))] ?_
    refine Same.of_eq ?_
    simp only[An]
    congr 1
    unfold Dv
    rw[if_neg (by simp_all),if_neg (by omega),if_pos (by assumption)]
   ·try simp only[Ao] at c3
    refine Ai ?_
    have qh5:((0≤(0:Int)∧0 < s.length))∧((-9223372036854775808≤((As s 0).toNat:Int)∧((As s 0).toNat:Int)≤9223372036854775807))∧((-9223372036854775808≤256+((As s 0).toNat:Int)∧256+((As s 0).toNat:Int)≤9223372036854775807)):=by
     rcases hp with hp|hp<;>first|(simp_all;done)|omega|(simp_all;omega)|(simp;omega)
    refine Af [] [2] [] hk0 v0 (cc 1 (p:=(0≤(0:Int)∧0 < s.length)) qh5.1<|cc 2 (p:=(-9223372036854775808≤((As s 0).toNat:Int)∧((As s 0).toNat:Int)≤9223372036854775807)) qh5.2.1<|cc 3 (p:=(-9223372036854775808≤256+((As s 0).toNat:Int)∧256+((As s 0).toNat:Int)≤9223372036854775807)) qh5.2.2<|c0) ?_
    refine Ah ?_
    refine RK wR [(.int .i64 (256+((As s 0).toNat:Int)))] ?_
    refine Same.of_eq ?_
    simp only[An]
    congr 1
    unfold Dv
    rw[if_neg (by simp_all),if_neg (by omega),if_neg (by simp_all)]
end Sv
end
section
open Go Go.RowKit
namespace Sv
theorem Q4x (s:List UInt8) (c:UInt8) (hc:c.toNat < 128):FnV Tryz.prog 145 [.str s,.str [c]] (.str (Lib.trimLeftB s c)):=by
  intro F w vs hF hv
  obtain⟨v,r1,rfl,h1,hv⟩:=hv.cons_inv
  obtain⟨v2,rfl,h2⟩:=hv.single_inv
  simp only[VR] at h1 h2
  subst h1 h2
  refine(Tryz.strings_TrimLeft_one ⟨s.toArray⟩ c hc w).mono ?_
  rintro e w' ⟨he,rfl⟩
  exact⟨_,he,Below.refl _ _,F,fun _ _ e=>e,hF,fun _ _ e => .inl e,by simp only[VR,List.toList_toArray]⟩
theorem Q5j (a b:List UInt8):FnV Tryz.prog 214 [.str a,.str b] (.int .i64 (Lib.compareBytes a b)):=by
  intro F w vs hF hv
  obtain⟨v,r1,rfl,h1,hv⟩:=hv.cons_inv
  obtain⟨v2,rfl,h2⟩:=hv.single_inv
  simp only[VR] at h1 h2
  subst h1 h2
  refine(Tryz.strings_Compare ⟨a.toArray⟩ ⟨b.toArray⟩ w).mono ?_
  rintro e w' ⟨he,rfl⟩
  exact⟨_,he,Below.refl _ _,F,fun _ _ e=>e,hF,fun _ _ e => .inl e,by simp only[VR,List.toList_toArray]⟩
end Sv
end
end Go.Proofs.YtlmloohlmlahfaaGreatDoor
