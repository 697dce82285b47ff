/- The texts S27, S28, S29, S30, S31, S32, S33, S34, S35, S36, S37, S38, S39, S40, S41, DepV, NamV, Evr1, CmpV, EvrV, EvrW, PkgV, FormV, Pool1, RuneV, NextV of the proof, joined. Each says at its theorems what it proves. -/
import Derived.Test.YtlamaeednbhjdaaGreatDoorJ1
import Derived.ScopeJumps
set_option linter.unusedSimpArgs false
set_option linter.unusedVariables false
namespace Go.Proofs.YtlamaeednbhjdaaGreatDoor
section
open Go Go.RowKit
namespace Sv
theorem Rel.turnO {B : Bas} {w w' : World} {φ φ' : Phi} {h : AH} (r : Rel B φ h w) {b : Nat} {o o' : AO} (hb : A5 b h = some o) (t : Turn φ φ' b) (hf : φ'.f = φ.f) (hbel : Bel B w') (hsz : w.heap.size ≤ w'.heap.size)
    (hkeep:∀k,k < w.heap.size→¬img φ b o k→w'.heap[k]? = w.heap[k]?) (ha:At B φ' w' b o') (hi:∀k,img φ' b o' k→¬B.old k∧k < w'.heap.size∧φ.f k=none∧∀c o1,c≠b→A5 c h=some o1→¬img φ c o1 k):Rel B φ' (B7 b o' (Ei b h)) w':=by
  have himg:∀c o,c≠b→img φ' c (Hh b o)=img φ c o:=by
    intro c o hc
    funext k
    cases o<;>simp only[Hh,img]<;>first|rw[t.m,t.s c hc]|rw[t.m]|rw[t.s c hc]
  have hoff:∀c o1 k,c≠b→A5 c h=some o1→img φ c o1 k→¬img φ b o k:=fun c o1 k hc e1 i1 i2=>hc (r.sep c b o1 o k e1 hb i1 i2)
  have h1:Rel B φ' (Ei b (Cg b h)) w':=by
    have getd:∀c o,A5 c (Ei b (Cg b h))=some o→∃o1,c≠b∧A5 c h=some o1∧o=Hh b o1:=by
      intro c o k
      rw[Hq] at k
      obtain⟨o1,k1,k2⟩:=Option.map_eq_some_iff.1 k
      exact⟨o1,(C7 k1).1,(C7 k1).2,k2.symm⟩
    refine⟨hbel,fun k o2 q=>?_,?_,?_,?_⟩
    · rw[hf] at q
      have:=r.fro k o2 q
      rw[hkeep k (C9 this) (fun e=>by have:=(r.gf b o k hb e).2.2;rw[this] at q;cases q)];exact this
    · intro c o2 k
      obtain⟨o1,hc,k1,rfl⟩:=getd c o2 k
      have hk:∀j,img φ c o1 j→w'.heap[j]? = w.heap[j]? := fun j hj=>hkeep j (r.gf c o1 j k1 hj).2.1 (hoff c o1 j hc k1 hj)
      have ho:=r.obj c o1 k1
      cases o1 with
      |row c' e' =>
        obtain⟨x,κ,vs,q1,q2,q3⟩:=ho
        exact⟨x,κ,vs,by rw[t.m];exact q1,(hk x (by simp[img,q1])).trans q2,R1 t q3⟩
      |grow es0 e0 sz0=>exact ho.imp (o:=.grow es0 e0 sz0) ⟨t.s c hc,t.f⟩ hk
      |map es0 clk=>exact ho.imp (o:=.map es0 clk) ⟨t.m c,t.f⟩ hk
      |siter s p=>exact ho.imp (o:=.siter s p) (t.m c) hk
      |mm g ho' e0 sz0=>exact ho.imp (o:=.mm g ho' e0 sz0) ⟨t.m c,t.s c hc,t.f⟩ hk
    · intro c c' o2 o2' k k1 k2 i1 i2
      obtain⟨o1,hc1,e1,rfl⟩:=getd c o2 k1
      obtain⟨o2,hc2,e2,rfl⟩:=getd c' o2' k2
      rw[himg c o1 hc1] at i1;rw[himg c' o2 hc2] at i2
      exact r.sep c c' o1 o2 k e1 e2 i1 i2
    · intro c o2 k k1 i1
      obtain⟨o1,hc1,e1,rfl⟩:=getd c o2 k1
      rw[himg c o1 hc1] at i1
      have:=r.gf c o1 k e1 i1
      exact⟨this.1,Nat.lt_of_lt_of_le this.2.1 hsz,by rw[hf];exact this.2.2⟩
  have h2:Rel B φ' (B7 b o' (Ei b (Cg b h))) w':=by
    refine h1.add ha fun k hk=>?_
    obtain⟨a1,a2,a3,a4⟩:=hi k hk
    refine⟨a1,a2,by rw[hf];exact a3,fun c o2 hc e1 i1=>?_⟩
    rw[Hq,Hr hc] at e1
    obtain⟨o1,k1,rfl⟩:=Option.map_eq_some_iff.1 e1
    rw[himg c o1 hc] at i1
    exact a4 c o1 hc k1 i1
  refine h2.congr fun c=>?_
  by_cases hc:c=b
  · subst hc;rw[G1,G1]
  · rw[Gj _ hc,Gj _ hc,Hq,Hq,Hr hc]
def Phi.setS (φ:Phi) (b:Nat) (v:Value):Phi:=⟨φ.m,fun i=>if i=b then some v else φ.s i,φ.f⟩
theorem Mo (φ:Phi) (b:Nat) (v:Value):Turn φ (φ.setS b v) b:=⟨fun _=>rfl,fun c hc=>if_neg hc,fun _ _ e=>e⟩
theorem J1 (φ:Phi) (b:Nat) (v:Value):(φ.setS b v).s b=some v:=if_pos rfl
theorem Su {n b:Nat} {φ φ':Phi} {s:Fr} {σ:Nat→Value} (t:Turn φ φ' b) (r:FRel φ n s σ):FRel φ' n (Gy (Gw b) s) σ:=by
  intro u a e
  rw[M1] at e
  obtain⟨a0,h1,rfl⟩:=Option.map_eq_some_iff.1 e
  exact R2 t (r u a0 h1)
def Di (g:List UInt8→List AV) (s:List UInt8) (es:List AV):List UInt8→List AV:=fun t=>if t=s then es else g t
noncomputable def mmS (b e sz:Nat) (x:St):Option St:=match A5 b x.h with
  |some (.map [] 0)=>some ⟨Gy (Gw b) x.s,B7 b (.mm (fun _=>[]) none e sz) (Ei b x.h),x.nx⟩
  |_=>none
section
variable {P : Program} {B : Bas} {w : World} {F F0 : Cx} {n : Nat} {φ : Phi} {σ : Nat → Value} {K : Exit → St → Prop} {x y : St} {ops : Array Oper}
theorem Holds.mm {b e sz:Nat} (h:Holds B F n x φ σ w) (k:mmS b e sz x=some y):∃φ',Holds B F n y φ' σ w:=by
  unfold mmS at k
  split at k
  · rename_i hb
    cases k
    obtain⟨x0,κ,l,h1,h2,h3⟩:=h.rel.obj b _ hb
    simp only[MR] at h3
    have hl:l = #[]:=by apply Array.ext';exact h3
    subst hl
    refine⟨φ.setS b (E3 none []),Su (Mo φ b _) h.fr,h.rel.turnO hb (Mo φ b _) rfl h.rel.below (Nat.le_refl _) (fun _ _ _=>rfl) ?_ ?_,fun c hc=>?_,h.old,h.new,h.base⟩
    · refine⟨x0,κ,#[],0,[],h1,h2,rfl,List.nodup_nil,J1 _ _ _,fun s u hu=>(by cases hu),fun _ _=>rfl,fun s u hu=>(by cases hu),fun s s' u u' k hu=>(by cases hu)⟩
    · intro k hk
      have hx:img φ b (.map [] 0) x0:=by simp[img,h1]
      have:k=x0:=by
        rcases hk with hk|⟨l,hl,u,hu,_⟩
        · have hk':(φ b).map (·.1)=some k:=hk
          rw[h1] at hk';simpa using hk'.symm
        · rw[J1] at hl
          have:=Value.tuple.inj (Option.some.inj hl)
          subst this;simp at hu
      subst this
      have hg:=h.rel.gf b _ k hb hx
      exact⟨hg.1,hg.2.1,hg.2.2,fun c o1 hc e i=>hc (h.rel.sep c b o1 _ k e hb i hx)⟩
    · refine⟨(h.dom c hc).1,?_⟩
      show(if c=b then _ else _)=_
      rw[if_neg ?_]
      · exact(h.dom c hc).2
      · rintro rfl;rw[(h.dom c hc).1] at h1;cases h1
  · cases k
theorem Q2y {c:Code} (b e sz:Nat) (k:mmS b e sz x=some y) (h:SW P n c B F K y):SW P n c B F K x:=fun φ σ w hx=>by
  obtain⟨φ',hh⟩:=hx.mm k
  exact h _ _ _ hh
noncomputable def Vm (n:Nat) (b:Nat) (s:List UInt8) (dst:Option Nat) (x:St):Option St:=match A5 b x.h with
  |some (.mm g none e sz)=>match Bw n dst (.own x.nx) (Gy (Gw b) x.s) with
    |some s'=>some ⟨s',B7 x.nx (.grow (g s) e sz) (B7 b (.mm g (some s) e sz) (Ei b x.h)),x.nx+1⟩
    |none=>none
  |_=>none
theorem Ey {rest : List Oper} {t kt et : TypeId} {X I : Operand} {dst : Option Tmp} {ty : TypeId} {ps : String} {af : Array Edge} {g : Option (Nat × Bool)} {b : Nat} {s : List UInt8}
    (hg:Cn ops x.s g=true) (hX:evA x.s X=some (.map b)) (hI:evA x.s I=some (.str s)) (ht:P.underlying t=some (.map kt et)) (hk:P.underlying kt=some .string) (hz:∀w,(zeroValue et).run P w = .ok (.slice none 0 0) w)
    (hy:Vm n b s dst x=some y) (next:SO P n ops rest B F K y):SO P n ops (⟨dst,.lookup t X I false,ty,ps,af,g⟩::rest) B F K x:=by
  intro φ σ w hx
  unfold Vm at hy
  split at hy
  · rename_i gg e sz hb
    split at hy
    · rename_i s' hp
      cases hy
      have v1:=hx.fr.ev _ _ hX
      have v2:=hx.fr.ev _ _ hI
      simp only[VR] at v1 v2
      obtain⟨x0,κ,e0,v1⟩:=v1
      obtain⟨x1,κ1,es,clk,m,h1,h2,h3,h4,h5,h6,h7,h8,h9⟩:=hx.rel.obj b _ hb
      rw[e0] at h1;cases h1
      have hm:MapIs w x0 (C5 S id m):=⟨es,clk,h2,h3⟩
      refine Bz (Cs hx.fr hg) (Q7 (enc:=S) (val:=id) (k:=s) (m:=m) v1 v2 hm (Sy hk) ht hz) ?_
      rw[show(Option.map id (Bn m s)).getD (.slice none 0 0)=(Bn m s).getD (.slice none 0 0) by simp]
      have hs:=(hx.dom x.nx (Nat.le_refl _)).2
      have hbn:b≠x.nx:=by rintro rfl;rw[(hx.dom _ (Nat.le_refl _)).1] at e0;cases e0
      have hxi:img φ b (.mm gg none e sz) x0:=.inl (by rw[e0];rfl)
      have hin:∀{t u k},Bn m t=some u→u.ownBlock=some k→img φ b (.mm gg none e sz) k:=by
        intro t u k hu hk
        obtain⟨l,b1,b2⟩:=O4 (hole:=none) h4 hu (by simp)
        exact .inr ⟨l,by rw[h5,b1],u,b2,hk⟩
      have r1:Rel B (φ.setS b (E3 (some s) m)) (B7 b (.mm gg (some s) e sz) (Ei b x.h)) w:=by
        refine hx.rel.turnO hb (Mo φ b _) rfl hx.rel.below (Nat.le_refl _) (fun _ _ _=>rfl) ?_ ?_
        · exact⟨x0,κ,es,clk,m,e0,h2,h3,h4,J1 _ _ _,fun t u hu ht=>h6 t u hu (by simp),h7,fun t u hu ht=>h8 t u hu (by simp),fun t t' u u' k hu hu' ht ht'=>h9 t t' u u' k hu hu' (by simp) (by simp)⟩
        · intro k hk
          have hki:img φ b (.mm gg none e sz) k:=by
            rcases hk with hk|⟨l,hl,u,hu,hk⟩
            · exact .inl hk
            · rw[J1] at hl
              obtain⟨t,q1,q2⟩:=R6 h4 (Option.some.inj hl) hu
              exact hin q1 hk
          have hg:=hx.rel.gf b _ k hb hki
          exact⟨hg.1,hg.2.1,hg.2.2,fun c o1 hc e i=>hc (hx.rel.sep c b o1 _ k e hb i hki)⟩
      have t1:=Mo φ b (E3 (some s) m)
      have hs1:(φ.setS b (E3 (some s) m)).s x.nx=none:=by show(if x.nx=b then _ else _)=_;rw[if_neg (Ne.symm hbn)];exact hs
      obtain⟨v,hv⟩:∃v,(Bn m s).getD (.slice none 0 0)=v:=⟨_,rfl⟩
      rw[hv]
      have hform:∃a n c,v = .slice a n c:=by
        cases hl:Bn m s with
        |none=>rw[hl] at hv;subst hv;exact⟨_,_,_,rfl⟩
        |some u =>
          rw[hl] at hv;subst hv
          obtain⟨vs,q1,_⟩:=h6 s u hl (by simp)
          obtain⟨a,c,rfl⟩:=Xm q1;exact⟨_,_,_,rfl⟩
      have hat:At B ((φ.setS b (E3 (some s) m)).extS x.nx v) w x.nx (.grow (gg s) e sz):=by
        cases hl:Bn m s with
        |none =>
          rw[hl] at hv;subst hv
          rw[h7 s hl]
          exact⟨_,[],Phi.extS_same _ _ _,World.ownsRow_nil w _ _ _,.nil,by simp⟩
        |some u =>
          rw[hl] at hv;subst hv
          obtain⟨vs,q1,q2,q3⟩:=h6 s u hl (by simp)
          exact⟨u,vs,Phi.extS_same _ _ _,q1,q2,q3⟩
      have r2:=(r1.go (Phi.extS_le hs1) (Below.refl _ _) r1.fro (fun b o q => .inl q)).add hat (fun k hk=>by
        simp only[img,Phi.extS_same,Option.bind_some] at hk
        have hl:∃u,Bn m s=some u∧u=v:=by
          cases hl:Bn m s with
          |none=>rw[hl] at hv;subst hv;simp[Value.ownBlock] at hk
          |some u=>rw[hl] at hv;exact⟨u,rfl,hv⟩
        obtain⟨u,hl,rfl⟩:=hl
        have hki:=hin hl hk
        have hg:=hx.rel.gf b _ k hb hki
        refine⟨hg.1,hg.2.1,hg.2.2,fun c o1 hc e1 i1=>?_⟩
        have hso:SameO (φ.setS b (E3 (some s) m)) ((φ.setS b (E3 (some s) m)).extS x.nx u) c o1:=SameO.of_le (Phi.extS_le hs1) (r1.obj c o1 e1)
        rw[hso.img] at i1
        by_cases hcb:c=b
        · subst hcb
          rw[G1] at e1;cases e1
          rcases i1 with i1|⟨l,hl',u',hu',hk'⟩
          · have i1':(φ c).map (·.1)=some k:=i1
            rw[e0] at i1'
            simp only[Option.map_some,Option.some.injEq] at i1'
            exact h8 s u hl (by simp) (by rw[hk,i1'])
          · rw[J1] at hl'
            obtain⟨t,q1,q2⟩:=R6 h4 (Option.some.inj hl') hu'
            exact q2 (by rw[h9 s t u u' k hl q1 (by simp) (by simp) hk hk'])
        · rw[Gj _ hcb,Hq] at e1
          obtain⟨o2,k2,rfl⟩:=Option.map_eq_some_iff.1 e1
          have:img (φ.setS b (E3 (some s) m)) c (Hh b o2)=img φ c o2:=by
            funext k
            cases o2<;>simp only[Hh,img]<;>first|rw[t1.m,t1.s c hcb]|rw[t1.m]|rw[t1.s c hcb]
          rw[this] at i1
          exact hcb (hx.rel.sep c b o2 _ k k2 hb i1 hki))
      have hfr:FRel ((φ.setS b (E3 (some s) m)).extS x.nx v) n (Gy (Gw b) x.s) σ:=fun u a e=>(Su t1 hx.fr u a e).mono (Phi.extS_le hs1)
      refine next _ _ w ⟨hfr.put hp ?_,r2,fun c hc=>?_,hx.old,hx.new,hx.base⟩
      · simp only[VR];exact⟨Phi.extS_same _ _ _,hform⟩
      · have hc':x.nx+1≤c:=by assumption
        refine⟨(hx.dom c (by omega)).1,?_⟩
        show(if c=x.nx then _ else (if c=b then _ else _))=_
        rw[if_neg (by omega),if_neg (by rintro rfl;rw[(hx.dom _ (by omega)).1] at e0;cases e0)]
        exact(hx.dom c (by omega)).2
    · cases hy
  · cases hy
noncomputable def Wp (b c:Nat) (x:St):Option St:=match A5 b x.h,A5 c x.h with
  |some (.mm g (some s) e sz),some (.grow es e' sz')=>bif Nat.beq e e'&&Nat.beq sz sz'&&!Nat.beq b c then some ⟨Gy (Gw b) x.s,B7 b (.mm (Di g s es) none e sz) (Ei b (Cg c x.h)),x.nx⟩ else none
  |_,_=>none
noncomputable def Ze (b:Nat) (h:AH):Option (List UInt8):=match A5 b h with
  |some (.mm _ (some s) _ _)=>some s
  |_=>none
theorem Jn {m:List (List UInt8 × Value)} {k j:List UInt8} {a:Value} (hne:j≠k):Bn (Ds m k a) j=Bn m j:=X4o m k j a hne
theorem Q1 {rest : List Oper} {t kt et : TypeId} {X I Y : Operand} {dst : Option Tmp} {ty : TypeId} {ps : String} {af : Array Edge} {g : Option (Nat × Bool)} {b c : Nat} {s s1 : List UInt8} {s' : Fr}
    (hg:Cn ops x.s g=true) (hX:evA x.s X=some (.map b)) (hI:evA x.s I=some (.str s)) (hY:evA x.s Y=some (.own c)) (hq:Ze b x.h=some s1) (hs1:s1=s) (ht:P.underlying t=some (.map kt et)) (hk:P.underlying kt=some .string)
    (hy:Wp b c x=some y) (hp:Bw n dst (.tup []) y.s=some s') (next:SO P n ops rest B F K ⟨s',y.h,y.nx⟩):SO P n ops (⟨dst,.mapUpdate t X I Y,ty,ps,af,g⟩::rest) B F K x:=by
  obtain rfl:s=s1:=hs1.symm
  intro φ σ w hx
  unfold Wp at hy
  split at hy
  · rename_i gg s0 e sz es e' sz' hb hc
    obtain⟨q,hy⟩:=Cw hy
    cases hy
    simp only[Bool.and_eq_true,Bool.not_eq_true'] at q
    obtain⟨⟨q2,q3⟩,q4⟩:=q
    unfold Ze at hq
    rw[hb] at hq
    cases hq
    have:=Nat.eq_of_beq_eq_true q2;subst this
    have:=Nat.eq_of_beq_eq_true q3;subst this
    have hbc:b≠c:=by rintro rfl;rw[Nat.beq_refl] at q4;cases q4
    have v1:=hx.fr.ev _ _ hX
    have v2:=hx.fr.ev _ _ hI
    have v3:=hx.fr.ev _ _ hY
    simp only[VR] at v1 v2 v3
    obtain⟨x0,κ,e0,v1⟩:=v1
    obtain⟨hsc,_⟩:=v3
    obtain⟨x1,κ1,ens,clk,m,h1,h2,h3,h4,h5,h6,h7,h8,h9⟩:=hx.rel.obj b _ hb
    rw[e0] at h1;cases h1
    obtain⟨v,vs,a1,a2,a3,a4⟩:=hx.rel.obj c _ hc
    rw[hsc] at a1
    have a1:=Option.some.inj a1
    have hm:MapIs w x0 (C5 S id m):=⟨ens,clk,h2,h3⟩
    obtain⟨w',o,u1,u2,u3⟩:=Q5t (Sy hk) ht w x0 m s (ev n σ Y) h4 hm
    have hxi:img φ b (.mm gg (some s) e sz) x0:=.inl (by rw[e0];rfl)
    have hci:∀k,(ev n σ Y).ownBlock=some k→img φ c (.grow es e sz) k:=fun k hk=>by simp only[img,hsc,Option.bind_some];exact hk
    have hin:∀{t u k},Bn m t=some u→t≠s→u.ownBlock=some k→img φ b (.mm gg (some s) e sz) k:=by
      intro t u k hu hts hk
      obtain⟨l,b1,b2⟩:=O4 (hole:=some s) h4 hu (by simpa using hts)
      exact .inr ⟨l,by rw[h5,b1],u,b2,hk⟩
    have hvx:(ev n σ Y).ownBlock≠some x0:=fun q=>hbc (hx.rel.sep b c _ _ x0 hb hc hxi (hci x0 q))
    have hput:=h4.put s (ev n σ Y)
    obtain⟨ens',clk',g2,g3⟩:=u3
    have t1:=Mo φ b (E3 none (Ds m s (ev n σ Y)))
    have hbd:A5 b (Cg c x.h)=some (.mm gg (some s) e sz):=by rw[Hr hbc];exact hb
    have hbel:Bel B w':=hx.rel.below.to u2.os u2.tape u2.output (by rw[u2.size];exact Nat.le_refl _) (fun k hk=>u2.block k (by rintro rfl;exact(hx.rel.gf b _ _ hb hxi).1 hk))
    have r1:Rel B (φ.setS b (E3 none (Ds m s (ev n σ Y)))) (B7 b (.mm (Di gg s es) none e sz) (Ei b (Cg c x.h))) w':=by
      have r0:Rel B φ (Cg c x.h) w:=hx.rel.del c
      refine r0.turnO hbd t1 rfl hbel (by rw[u2.size];exact Nat.le_refl _) (fun k _ hki=>u2.block k (by rintro rfl;exact hki hxi)) ?_ ?_
      · refine⟨x0,κ,ens',clk',Ds m s (ev n σ Y),e0,g2,g3,hput,J1 _ _ _,fun t u hu _=>?_,fun t ht=>?_,fun t u hu _=>?_,fun t t' u u' k hu hu' _ _ hk hk'=>?_⟩
        · by_cases hts:t=s
          · subst hts
            rw[L9] at hu;cases hu
            have hu1:Di gg t es t=es:=if_pos rfl
            rw[hu1]
            refine⟨vs,?_,a3,a4⟩
            rw[a1]
            exact Lj a2 (fun j hj=>u2.block j (by rintro rfl;exact hvx (by rw[a1];exact hj)))
          · rw[Jn hts] at hu
            obtain⟨us,p1,p2,p3⟩:=h6 t u hu (by simpa using hts)
            refine⟨us,?_,?_,p3⟩
            · simp only[Di,if_neg hts]
              exact Lj p1 (fun j hj=>u2.block j (by rintro rfl;exact h8 t u hu (by simpa using hts) hj))
            · simp only[Di,if_neg hts];exact p2
        · by_cases hts:t=s
          · subst hts;rw[L9] at ht;cases ht
          · rw[Jn hts] at ht;simp only[Di,if_neg hts];exact h7 t ht
        · by_cases hts:t=s
          · subst hts;rw[L9] at hu;cases hu;exact hvx
          · rw[Jn hts] at hu;exact h8 t u hu (by simpa using hts)
        · by_cases hts:t=s<;>by_cases hts':t'=s
          · rw[hts,hts']
          · subst hts;rw[L9] at hu;cases hu
            rw[Jn hts'] at hu'
            exact absurd (hx.rel.sep b c _ _ k hb hc (hin hu' hts' hk') (hci k hk)) hbc
          · subst hts';rw[L9] at hu';cases hu'
            rw[Jn hts] at hu
            exact absurd (hx.rel.sep b c _ _ k hb hc (hin hu hts hk) (hci k hk')) hbc
          · rw[Jn hts] at hu;rw[Jn hts'] at hu'
            exact h9 t t' u u' k hu hu' (by simpa using hts) (by simpa using hts') hk hk'
      · intro k hk
        have hcase:img φ b (.mm gg (some s) e sz) k∨img φ c (.grow es e sz) k:=by
          rcases hk with hk|⟨l,hl,u,hu,hk⟩
          · exact .inl (.inl hk)
          · rw[J1] at hl
            obtain⟨t,p1,_⟩:=R6 hput (Option.some.inj hl) hu
            by_cases hts:t=s
            · subst hts;rw[L9] at p1;cases p1;exact .inr (hci k hk)
            · rw[Jn hts] at p1;exact .inl (hin p1 hts hk)
        rcases hcase with hki|hki
        · have hg:=hx.rel.gf b _ k hb hki
          exact⟨hg.1,by rw[u2.size];exact hg.2.1,hg.2.2,fun c' o1 hc' e1 i=>hc' (hx.rel.sep c' b o1 _ k (C7 e1).2 hb i hki)⟩
        · have hg:=hx.rel.gf c _ k hc hki
          exact⟨hg.1,by rw[u2.size];exact hg.2.1,hg.2.2,fun c' o1 hc' e1 i=>(C7 e1).1 (hx.rel.sep c' c o1 _ k (C7 e1).2 hc i hki)⟩
    refine H0 (Cs hx.fr hg) (w':=w') ?_ (next _ _ w' ⟨(Su t1 hx.fr).put hp Mj,r1,fun c' hc'=>⟨(hx.dom c' hc').1,?_⟩,hx.old,hx.new,hx.base⟩)
    · have u1':(Instr.mapUpdate t (.map (some x0)) (S s) (ev n σ Y)).run P w = .ok () w':=u1
      simp[execOp,v1,v2,u1',go_sem]
    · show(if c'=b then _ else _)=_
      rw[if_neg (by rintro rfl;rw[(hx.dom _ hc').1] at e0;cases e0)]
      exact(hx.dom c' hc').2
  · cases hy
theorem X6c {rest : List Oper} {t kt et : TypeId} {X I : Operand} {dst : Option Tmp} {ty : TypeId} {ps : String} {af : Array Edge} {g : Option (Nat × Bool)} {z : Value} {G : List UInt8 → AV} {s : List UInt8} {s' : Fr}
    (hg:Cn ops x.s g=true) (hX:evA x.s X=some (.smap z G)) (hI:evA x.s I=some (.str s)) (ht:P.underlying t=some (.map kt et)) (hk:P.underlying kt=some .string) (hz:∀w,(zeroValue et).run P w = .ok z w)
    (hp:Bw n dst (G s) x.s=some s') (next:SO P n ops rest B F K ⟨s',x.h,x.nx⟩):SO P n ops (⟨dst,.lookup t X I false,ty,ps,af,g⟩::rest) B F K x:=by
  intro φ σ w hx
  have v1:=hx.fr.ev _ _ hX
  have v2:=hx.fr.ev _ _ hI
  simp only[VR] at v1 v2
  obtain⟨x0,es,clk,m,v1,h2,h3,h4⟩:=v1
  have hm:MapIs w x0 (C5 S id m):=⟨es,clk,hx.rel.fro _ _ h2,h3⟩
  refine Bz (Cs hx.fr hg) (Q7 (enc:=S) (val:=id) (k:=s) (m:=m) v1 v2 hm (Sy hk) ht hz) (next _ _ w ⟨hx.fr.put hp ?_,hx.rel,hx.dom,hx.old,hx.new,hx.base⟩)
  have h5:=h4 s
  cases hl:Bn m s with
  |none=>simp only[Option.map_none,Option.getD_none];exact(h5.2 hl).mono (Phi.le_fz φ)
  |some u=>simp only[Option.map_some,Option.getD_some,id];exact(h5.1 u hl).mono (Phi.le_fz φ)
end
end Sv
end
section
open Go Go.RowKit
namespace Sv
section
variable {P : Program} {B : Bas} {w : World} {F F0 : Cx} {n : Nat} {φ : Phi} {σ : Nat → Value} {K : Exit → St → Prop} {x y : St} {ops : Array Oper}
theorem Rel.setO {B : Bas} {w w' : World} {φ : Phi} {h : AH} (r : Rel B φ h w) {b : Nat} {o o' : AO} (hb : A5 b h = some o) (hbel : Bel B w') (hsz : w.heap.size ≤ w'.heap.size)
    (hkeep:∀k,k < w.heap.size→¬img φ b o k→w'.heap[k]? = w.heap[k]?) (ha:At B φ w' b o') (hi:∀k,img φ b o' k→img φ b o k):Rel B φ (B7 b o' h) w':=by
  have h1:Rel B φ (Cg b h) w':=(r.del b).frame (fun c o1 e=>SameO.of_le (Phi.le_refl φ) (r.obj c o1 (C7 e).2)) hbel hsz
    (fun c o1 e=>by rw[hkeep c (C9 (r.fro c o1 e)) (fun i=>by rw[(r.gf b o c hb i).2.2] at e;cases e)];exact r.fro c o1 e)
    (fun c o1 k e i=>by
      have e':=C7 e
      exact⟨hkeep k (r.gf c o1 k e'.2 i).2.1 (fun j=>e'.1 (r.sep c b o1 o k e'.2 hb i j)),(r.gf c o1 k e'.2 i).2.2⟩)
  have h2:Rel B φ (B7 b o' (Cg b h)) w':=h1.add ha fun k hk=>by
    have hg:=r.gf b o k hb (hi k hk)
    exact⟨hg.1,Nat.lt_of_lt_of_le hg.2.1 hsz,hg.2.2,fun c o1 hc e i=>hc (r.sep c b o1 o k (C7 e).2 hb i (hi k hk))⟩
  refine h2.congr fun c=>?_
  by_cases hc:c=b
  · subst hc;rw[G1,G1]
  · rw[Gj _ hc,Gj _ hc,Hr hc]
theorem Q2 {rest : List Oper} {t : TypeId} {X I : Operand} {dst : Option Tmp} {ty : TypeId} {ps : String} {af : Array Edge} {g : Option (Nat × Bool)} {b e sz i : Nat} {k : IntKind} {es : List AV} {s' : Fr}
    (hg:Cn ops x.s g=true) (hX:evA x.s X=some (.own b)) (hI:evA x.s I=some (.int k (i:Int))) (hb:A5 b x.h=some (.grow es e sz)) (he:Fz P t=some e) (hs:tsz P e=some sz) (hi:i < es.length)
    (hp:Bw n dst (.op b (i*sz)) x.s=some s') (next:SO P n ops rest B F K ⟨s',x.h,x.nx⟩):SO P n ops (⟨dst,.indexAddr t X I,ty,ps,af,g⟩::rest) B F K x:=by
  intro φ σ w hx
  have v1:=hx.fr.ev _ _ hX
  have v2:=hx.fr.ev _ _ hI
  simp only[VR] at v1 v2
  obtain⟨v,vs,a1,a2,a3,a4⟩:=hx.rel.obj b _ hb
  rw[v1.1] at a1;have a1:=Option.some.inj a1
  rcases a2.2 with⟨rfl,hn⟩|⟨gb,cap,cur,hv,_⟩
  · omega
  · rw[←a1] at hv
    refine Bz (Cs hx.fr hg) (v:=.pointer (some ⟨gb,i*sz,none⟩)) ?_ (next _ _ w ⟨hx.fr.put hp ?_,hx.rel,hx.dom,hx.old,hx.new,hx.base⟩)
    · have h1:(0:Int)≤(i:Int)∧(i:Int) < (es.length:Int):=by omega
      simp[execOp,Instr.indexAt,asIntOf,hv,v2,run_underlying (El he),Co hs,h1,hi,Zq,go_sem]
    · simp only[VR];exact⟨_,gb,v1.1,by rw[hv];rfl,rfl⟩
noncomputable def Xs (P:Program) (s f:Nat):Option Nat:=match P.underlying s with
  |some (.struct fields)=>match fields.toList[f]? with
    |some fd=>match tsz P fd.type with
      |some (_+1)=>some fd.offset
      |_=>none
    |none=>none
  |_=>none
theorem Uo {rest : List Oper} {s : TypeId} {X : Operand} {f : Nat} {dst : Option Tmp} {ty : TypeId} {ps : String} {af : Array Edge} {g : Option (Nat × Bool)} {b o off : Nat} {s' : Fr}
    (hg:Cn ops x.s g=true) (hX:evA x.s X=some (.op b o)) (hf:Xs P s f=some off)
    (hp:Bw n dst (.op b (o+off)) x.s=some s') (next:SO P n ops rest B F K ⟨s',x.h,x.nx⟩):SO P n ops (⟨dst,.fieldAddr s X f,ty,ps,af,g⟩::rest) B F K x:=by
  intro φ σ w hx
  have v1:=hx.fr.ev _ _ hX
  simp only[VR] at v1
  obtain⟨hd,k,e1,e2,hv⟩:=v1
  unfold Xs at hf
  split at hf
  · rename_i fields hs
    split at hf
    · rename_i fd hfd
      split at hf
      · rename_i m hm
        cases hf
        have hfd':fields[f]? = some fd:=by simpa using hfd
        refine Bz (Cs hx.fr hg) (v:=.pointer (some ⟨k,o+fd.offset,none⟩)) ?_ (next _ _ w ⟨hx.fr.put hp ?_,hx.rel,hx.dom,hx.old,hx.new,hx.base⟩)
        · simp[execOp,hv,Instr.fieldAt,Instr.sureAddr,fieldPlace,run_underlying hs,hfd',Co hm,Ef,go_sem]
        · simp only[VR];exact⟨hd,k,e1,e2,rfl⟩
      · cases hf
    · cases hf
  · cases hf
theorem Q98 {vs:List Value} {sz i j:Nat} {v u:Value} (h:∀u∈vs,u.cells.size=sz) (hv:vs[i]? = some v) (hj:v.cells.toList[j]? = some u):(vs.flatMap fun u=>u.cells.toList)[i*sz+j]? = some u:=by
  obtain⟨hi,rfl⟩:=List.getElem?_eq_some_iff.1 hv
  have hj':j < sz:=by have:=(List.getElem?_eq_some_iff.1 hj).1;rw[Array.length_toList,h _ (List.getElem_mem hi)] at this;exact this
  rw[List.flatMap_def,Nf (sz:=sz) (vs.map fun u=>u.cells.toList) i j (fun c hc=>by obtain⟨v,hv,rfl⟩:=List.mem_map.1 hc;rw[Array.length_toList];exact h v hv) (by rw[List.length_map];exact hi) hj']
  rw[show nth (vs.map fun u=>u.cells.toList) i=(vs[i]).cells.toList by simp[nth,hi]]
  exact hj
noncomputable def Xr (P:Program) (t:TypeId) (a:AV) (j:Nat):Option AV:=bif Ee a then none else match Gn P t with
  |some true=>match tsz P t with
    |some m=>bif Nat.ble (j+m) (cellsOf a).length then some (.agg (((cellsOf a).drop j).take m)) else none
    |none=>none
  |some false=>(cellsOf a)[j]?
  |none=>none
theorem Un {rest : List Oper} {t : TypeId} {X : Operand} {dst : Option Tmp} {ty : TypeId} {ps : String} {af : Array Edge} {g : Option (Nat × Bool)} {b e sz i j o : Nat} {es : List AV} {a r : AV} {s' : Fr}
    (hg:Cn ops x.s g=true) (hX:evA x.s X=some (.op b o)) (ho:o=i*sz+j) (hb:A5 b x.h=some (.grow es e sz)) (ha:es[i]? = some a) (hl:Xr P t a j=some r)
    (hp:Bw n dst r x.s=some s') (next:SO P n ops rest B F K ⟨s',x.h,x.nx⟩):SO P n ops (⟨dst,.load t X,ty,ps,af,g⟩::rest) B F K x:=by
  subst ho
  intro φ σ w hx
  have v1:=hx.fr.ev _ _ hX
  simp only[VR] at v1
  obtain⟨hd,k,e1,e2,hv⟩:=v1
  obtain⟨v,vs,a1,a2,a3,a4⟩:=hx.rel.obj b _ hb
  rw[e1] at a1;cases a1
  obtain⟨u,hu,hua⟩:=a3.get ha
  have hcell:∀q z,u.cells.toList[q]? = some z→w.cell? ⟨k,i*sz+q,none⟩=some z:=fun q z hz=>by
    have:=a2.cells e2 _ _ (Q98 (fun u hu=>(a4 u hu).1) hu hz)
    rwa [Ef,Nat.zero_add] at this
  unfold Xr at hl
  cases hagg:Ee a with
  |true=>rw[hagg] at hl;cases hl
  |false =>
    rw[hagg,cond_false] at hl
    have hc:=hua.cells hagg
    split at hl
    · rename_i hat
      split at hl
      · rename_i m hm
        obtain⟨h3,h4⟩:=Dr (f:=none) hl
        cases h4
        have hle:=Da h3
        have hlen:=hc.length
        have hus:((u.cells.toList.drop j).take m).length=m:=by simp only[List.length_take,List.length_drop];omega
        have hrun:=run_loadCells_list (P:=P) w ⟨k,i*sz+j,none⟩ ((u.cells.toList.drop j).take m) (fun q z hz=>by
          rw[Ef,Nat.add_assoc]
          refine hcell _ _ ?_
          obtain⟨hlt,_⟩:=List.getElem?_eq_some_iff.1 hz
          rw[List.getElem?_take_of_lt (by simp at hlt;omega),List.getElem?_drop] at hz
          exact hz)
        rw[hus] at hrun
        refine Bz (Cs hx.fr hg) (v:=.agg ((u.cells.toList.drop j).take m).toArray) ?_ (next _ _ w ⟨hx.fr.put hp ?_,hx.rel,hx.dom,hx.old,hx.new,hx.base⟩)
        · simp only[execOp,hv,Instr.loadAt,Instr.sureAddr,Sem.run_bind,Sem.run_pure,Result.andThen_ok,loadVar,Jo hat,if_true,Co hm,hrun]
        · simp only[VR];exact⟨_,((hc.drop j).take m).mono (Phi.le_fz φ),rfl⟩
      · cases hl
    · rename_i hat
      obtain⟨z,h1,h2⟩:=hc.get hl
      refine Bz (Cs hx.fr hg) (v:=z) ?_ (next _ _ w ⟨hx.fr.put hp (h2.mono (Phi.le_fz φ)),hx.rel,hx.dom,hx.old,hx.new,hx.base⟩)
      have:=hcell _ _ h1
      simp[execOp,hv,Instr.loadAt,Instr.sureAddr,loadVar,Jo hat,this,go_sem]
    · cases hl
theorem Q4x {α : Type} {A us D rest Y : List α} {j m : Nat} (hY : Y.length = m) (hj : j + m ≤ us.length) :
    ((A++(us++D))++rest).take (A.length+j)++Y++((A++(us++D))++rest).drop (A.length+j+m)=(A++(((us.take j++Y)++us.drop (j+m))++D))++rest:=by
  rw[List.append_assoc A,List.append_assoc us,List.take_append,List.take_of_length_le (Nat.le_add_right _ _),Nat.add_sub_cancel_left,List.take_append_of_le_length (by omega),
    Nat.add_assoc,List.drop_append,List.drop_of_length_le (Nat.le_add_right _ _),Nat.add_sub_cancel_left,List.drop_append_of_le_length hj]
  simp
noncomputable def Xq (P:Program) (t:TypeId) (a v:AV) (j:Nat):Option AV:=match a,tsz P t with
  |.agg l,some m=>bif Nat.beq (cellsOf v).length m&&!Ee v&&Nat.ble (j+m) l.length&&frzl (cellsOf v)&&ones (cellsOf v) then some (.agg ((l.take j++cellsOf v)++l.drop (j+m))) else none
  |_,_=>none
theorem X59 {rest : List Oper} {t : TypeId} {X Y : Operand} {dst : Option Tmp} {ty : TypeId} {ps : String} {af : Array Edge} {g : Option (Nat × Bool)} {b e sz i j o : Nat} {es : List AV} {a v r : AV} {s' : Fr}
    (hg:Cn ops x.s g=true) (hX:evA x.s X=some (.op b o)) (ho:o=i*sz+j) (hY:evA x.s Y=some v) (hb:A5 b x.h=some (.grow es e sz)) (ha:es[i]? = some a) (hr:Xq P t a v j=some r)
    (hp:Bw n dst (.tup []) x.s=some s') (next:SO P n ops rest B F K ⟨s',B7 b (.grow (es.set i r) e sz) x.h,x.nx⟩):SO P n ops (⟨dst,.store t X Y,ty,ps,af,g⟩::rest) B F K x:=by
  subst ho
  intro φ σ w hx
  have v1:=hx.fr.ev _ _ hX
  have v2:=hx.fr.ev _ _ hY
  simp only[VR] at v1
  obtain⟨hd,k,e1,e2,hv⟩:=v1
  obtain⟨v0,vs,a1,a2,a3,a4⟩:=hx.rel.obj b _ hb
  rw[e1] at a1;cases a1
  obtain⟨u,hu,hua⟩:=a3.get ha
  unfold Xq at hr
  split at hr
  · rename_i l m hm
    obtain⟨hc,h4⟩:=Dr (f:=none) hr
    cases h4
    simp only[Bool.and_eq_true,Bool.not_eq_true'] at hc
    obtain⟨⟨⟨⟨c1,c2⟩,c3⟩,c4⟩,c5⟩:=hc
    have c3':=Da c3
    have hcells:=v2.cells c2
    have hm':=Nat.eq_of_beq_eq_true c1
    have hlen:(ev n σ Y).cells.size=m:=by have:=hcells.length;simp only[Array.length_toList] at this;omega
    simp only[VR] at hua
    obtain⟨us,h5,rfl⟩:=hua
    obtain⟨hi,hui⟩:=List.getElem?_eq_some_iff.1 hu
    have hmem:Value.agg us.toArray∈vs:=by rw[←hui];exact List.getElem_mem hi
    have hus:us.length=sz:=by have:=(a4 _ hmem).1;simpa [Value.cells] using this
    have hl5:=h5.length
    have hones:=hcells.ones c5
    rcases a2.2 with⟨rfl,hn⟩|⟨gb,cap,cur,rfl,g1,g2,g3,g4,g5,g6⟩
    · simp[Value.ownBlock] at e2
    · have:gb=k:=by simpa [Value.ownBlock] using e2
      subst this
      have hne:=a3.length
      have hcap:(i+1)*sz≤cap*sz:=Nat.mul_le_mul_right sz (by omega)
      have e3:(i+1)*sz=i*sz+sz:=by rw[Nat.add_mul,Nat.one_mul]
      have hyl:(ev n σ Y).cells.toList.length=m:=by rw[Array.length_toList];exact hlen
      have hrun:=run_storeCells_at P gb (i*sz+j) e (ev n σ Y).cells.toList 0 cur w g2 (by omega) hones
      rw[hyl,Nat.add_zero] at hrun
      have hst:(Instr.storeAt t (.pointer (some ⟨gb,i*sz+j,none⟩)) (ev n σ Y)).run P w=(storeCells ⟨gb,i*sz+j,none⟩ (ev n σ Y).cells.toList).run P w:=by
        simp only[Instr.storeAt,Instr.sureAddr,Sem.run_bind,Sem.run_pure,Result.andThen_ok,storeVar,Co hm]
        rw[if_neg (by simp[hlen])]
      obtain⟨C,hC⟩:∃C,cur.toList.take (i*sz+j)++(ev n σ Y).cells.toList++cur.toList.drop (i*sz+j+m)=C:=⟨_,rfl⟩
      rw[hC] at hrun
      have hrun':=hst.trans hrun
      have hnew:VR φ.fz (.agg ((l.take j++cellsOf v)++l.drop (j+m))) (.agg (((us.take j++(ev n σ Y).cells.toList)++us.drop (j+m))).toArray):=by
        simp only[VR];exact⟨_,((h5.take j).append (VRl.fz hcells c4)).append (h5.drop _),rfl⟩
      have hnl:((us.take j++(ev n σ Y).cells.toList)++us.drop (j+m)).length=sz:=by simp only[List.length_append,List.length_take,List.length_drop];omega
      have hsz:∀u∈vs,u.cells.size=sz:=fun u hu=>(a4 u hu).1
      have hiv:i < vs.length:=hi
      have hlv:es.length=vs.length:=a3.length.symm
      have hfl:=Ng hsz
      have hvs:vs=vs.take i++vs[i]::vs.drop (i+1):=by
        rw[List.getElem_cons_drop,List.take_append_drop]
      have hA:((vs.take i).flatMap fun u=>u.cells.toList).length=i*sz:=by
        rw[Ng (fun u hu=>hsz u (List.mem_of_mem_take hu)),List.length_take,Nat.min_eq_left (by omega)]
      have hthree:(vs.flatMap fun u=>u.cells.toList)=((vs.take i).flatMap fun u=>u.cells.toList)++(us++(vs.drop (i+1)).flatMap fun u=>u.cells.toList):=by
        conv=>lhs;rw[hvs]
        rw[List.flatMap_append,List.flatMap_cons,hui]
        simp[Value.cells]
      have hcur:cur.toList=(((vs.take i).flatMap fun u=>u.cells.toList)++(us++(vs.drop (i+1)).flatMap fun u=>u.cells.toList))++cur.toList.drop (es.length*sz):=by
        rw[←hthree,←g6,List.take_append_drop]
      have hCC:C=(((vs.take i).flatMap fun u=>u.cells.toList)++((((us.take j++(ev n σ Y).cells.toList)++us.drop (j+m)))++(vs.drop (i+1)).flatMap fun u=>u.cells.toList))++cur.toList.drop (es.length*sz):=by
        rw[←hC]
        conv=>lhs;rw[hcur,←hA]
        exact Q4x hyl (by omega)
      have hset:((vs.set i (.agg (((us.take j++(ev n σ Y).cells.toList)++us.drop (j+m))).toArray)).flatMap fun u=>u.cells.toList)=((vs.take i).flatMap fun u=>u.cells.toList)++((((us.take j++(ev n σ Y).cells.toList)++us.drop (j+m)))++(vs.drop (i+1)).flatMap fun u=>u.cells.toList):=by
        rw[List.set_eq_take_append_cons_drop,if_pos hiv,List.flatMap_append,List.flatMap_cons]
        simp[Value.cells]
      have hclen:C.length=cap*sz:=by
        have:cur.toList.length=cap*sz:=by rw[Array.length_toList];exact g5
        rw[←hC];simp only[List.length_append,List.length_take,List.length_drop];omega
      have hat:At B φ (w.setRow gb C.toArray) b (.grow (es.set i (.agg ((l.take j++cellsOf v)++l.drop (j+m)))) e sz):=by
        refine⟨_,vs.set i (.agg (((us.take j++(ev n σ Y).cells.toList)++us.drop (j+m))).toArray),e1,?_,VRl.set i a3 hnew,fun z hz=>?_⟩
        · rw[List.length_set]
          refine⟨?_,.inr ⟨gb,cap,C.toArray,rfl,Nat.zero_le _,setRow_heap w gb cur _ e _ g2,g3,g4,by simpa using hclen,?_⟩⟩
          · rw[Ng (sz:=sz) (fun z hz=>?_),List.length_set,hlv]
            rcases List.mem_or_eq_of_mem_set hz with hz|rfl
            · exact hsz z hz
            · simpa [Value.cells] using hnl
          · rw[hset,List.toList_toArray,hCC]
            refine List.take_left' ?_
            have:=congrArg List.length hset
            rw[←this,Ng (sz:=sz) (fun z hz=>?_),List.length_set,hlv]
            rcases List.mem_or_eq_of_mem_set hz with hz|rfl
            · exact hsz z hz
            · simpa [Value.cells] using hnl
        · rcases List.mem_or_eq_of_mem_set hz with hz|rfl
          · exact a4 z hz
          · refine⟨by simpa [Value.cells] using hnl,fun c hc=>?_⟩
            simp only[Value.cells,List.toList_toArray,List.mem_append] at hc
            rcases hc with (hc|hc)|hc
            · exact(a4 _ hmem).2 c (by simp only[Value.cells,List.toList_toArray];exact List.mem_of_mem_take hc)
            · exact hones c hc
            · exact(a4 _ hmem).2 c (by simp only[Value.cells,List.toList_toArray];exact List.mem_of_mem_drop hc)
      have hgi:img φ b (.grow es e sz) gb:=by simp only[img,e1,Option.bind_some];rfl
      have hrel:Rel B φ (B7 b (.grow (es.set i (.agg ((l.take j++cellsOf v)++l.drop (j+m)))) e sz) x.h) (w.setRow gb C.toArray):=by
        refine hx.rel.setO hb (hx.rel.below.to rfl rfl rfl ?_ fun q hq=>setRow_other w gb q _ ?_) ?_ (fun q _ hq=>setRow_other w gb q _ ?_) hat (fun k hk=>hk)
        · simp
        · rintro rfl;exact(hx.rel.gf b _ q hb hgi).1 hq
        · simp
        · rintro rfl;exact hq hgi
      refine H0 (Cs hx.fr hg) (w':=w.setRow gb C.toArray) ?_ (next φ _ _ ⟨hx.fr.put hp Mj,hrel,hx.dom,hx.old,hx.new,hx.base⟩)
      have hrun2:(Instr.storeAt t (ev n σ X) (ev n σ Y)).run P w = .ok () (w.setRow gb C.toArray):=by rw[hv];exact hrun'
      exact V8 hrun2
  · cases hr
noncomputable def Rq (P:Program) (b j:Nat) (x:St):Option St:=match A5 b x.h with
  |some (.row cs e)=>match cs[j]? with
    |some a=>match Ct P x.h a with
      |some (r,h1)=>match A5 b h1 with
        |some (.row cs' e')=>bif Nat.beq e e'&&Nat.beq cs.length cs'.length then some ⟨x.s,B7 b (.row (cs'.set j r) e) h1,x.nx⟩ else none
        |_=>none
      |none=>none
    |none=>none
  |_=>none
theorem Holds.stillC {b j:Nat} (h:Holds B F n x φ σ w) (k:Rq P b j x=some y):∃φ',Holds B F n y φ' σ w:=by
  unfold Rq at k
  split at k
  · rename_i cs e hb
    split at k
    · rename_i a ha
      split at k
      · rename_i r h1 hr
        split at k
        · rename_i cs' e' hb'
          obtain⟨q,k⟩:=Cw k
          cases k
          simp only[Bool.and_eq_true] at q
          have:=Nat.eq_of_beq_eq_true q.1;subst this
          obtain⟨x0,κ,vs,a1,a2,a3⟩:=h.rel.obj b _ hb
          obtain⟨v,hv,hva⟩:=a3.get ha
          obtain⟨F',f1,f2,f3,f4⟩:=Tb hr B φ w _ h.rel (VRl.single hva)
          obtain⟨v',hv',f5⟩:=f4.single_inv
          cases hv'
          obtain⟨x1,κ1,vs1,b1,b2,b3⟩:=f3.obj b _ hb'
          rw[show(Phi.m ⟨φ.m,φ.s,F'⟩) b=φ b from rfl,a1] at b1;cases b1
          rw[a2] at b2;cases b2
          have hat:At B ⟨φ.m,φ.s,F'⟩ w b (.row (cs'.set j r) e):=⟨x0,κ,vs,a1,a2,b3.put hv (f5.mono (Phi.le_fz ⟨φ.m,φ.s,F'⟩))⟩
          exact⟨⟨φ.m,φ.s,F'⟩,fun t a e=>(h.fr t a e).mono (leF f1),f3.setO hb' f3.below (Nat.le_refl _) (fun _ _ _=>rfl) hat (fun k hk=>hk),h.dom,fun b o e=>f1 _ _ (h.old b o e),fun b o e=>(f2 b o e).elim (h.new b o) .inr,h.base⟩
        · cases k
      · cases k
    · cases k
  · cases k
theorem H1 {l:List Oper} (b j:Nat) (k:Rq P b j x=some y) (h:SO P n ops l B F K y):SO P n ops l B F K x:=fun φ σ w hx=>by
  obtain⟨φ',hh⟩:=hx.stillC k
  exact h _ _ _ hh
end
end Sv
end
section
open Go Go.RowKit
namespace Sv
section
variable {P : Program} {B : Bas} {w : World} {F F0 : Cx} {n : Nat} {φ : Phi} {σ : Nat → Value} {K : Exit → St → Prop} {KK : St → Prop} {x y : St} {E : Bool} {ops : Array Oper} {fuel : Nat} {listed : Array Bool}
theorem X5m {o:Oper} {Q Q':Exit→(Nat→Value)→World→Prop} (hn:∀e σ w,Q e σ w→e = .normal) (hq:∀e σ w,Q e σ w→Q' e σ w) (h:WO P n ops [o] Q σ w):WO P n ops [o] Q' σ w:=by
  unfold WO wpList at h ⊢
  have ho:¬LetsOut (lift n Q):=by
    rintro⟨a,w,σ',_,h⟩;have:=hn _ _ _ h;cases this
  have hk:∀a w',wpList P ops (lift n Q) [] a w'→wpList P ops (lift n Q') [] a w':=by
    rintro a w' ⟨σ',rfl,h⟩;exact⟨σ',rfl,hq _ _ _ h⟩
  split at h
  · rename_i hw
    rw[if_pos hw]
    rcases h with h|⟨_,h⟩
    · exact .inl (Od hk (fun c a w hc=>by obtain⟨_,_,hc⟩:=hc;have:=hn _ _ _ hc;cases this) ho h)
    · exact absurd h ho
  · rename_i hw
    rw[if_neg hw];exact hk _ _ h
theorem Cf (i:Nat) {o:Oper} (hi:ops[i]? = some o) (h:SO P n ops [o] B F0 (fun e y=>e = .normal∧SG P n ops B F KK F0 false fuel (listed.setIfInBounds i true) y) x):SN P n ops B F KK F0 E fuel listed i x:=by
  intro φ σ w hx hE
  refine⟨o,hi,X5m (by rintro e σ' w' ⟨y,φ',hy,rfl,hs⟩;rfl) ?_ (h φ σ w hx)⟩
  rintro e σ' w' ⟨y,φ',hy,rfl,hs⟩
  unfold SG at hs
  exact⟨rfl,hy.hold,hs φ' σ' w' hy (fun q=>by cases q)⟩
theorem Up {rest : List Oper} {f : FuncId} {ar : Array Operand} {ts : Array TypeId} {ty : TypeId} {ps : String} {dst : Option Tmp} {af : Array Edge} {g : Option (Nat × Bool)} {al al' : List AV} {h' : AH} {r : AV} {s' : Fr} {q : Bool}
    (hg:G0 ops x.s g=some q) (he:Aj P f) (ha:Df (He ar.toList (evA x.s)) ar.toList=some al) (hn:q=true→Bh (D1 (evA x.s) ar.toList)) (hz:frzVl P x.h al=some (al',h')) (hf:q=true→FnV P f al' r) (hr:Lg r=true) (hp:Bw n dst (.cond q r) x.s=some s')
    (next:SO P n ops rest B F K ⟨s',x.h,x.nx⟩):SO P n ops (⟨dst,.call { callee:=.value (.func f),args:=ar,argTypes:=ts },ty,ps,af,g⟩::rest) B F K x:=by
  intro φ σ w hx
  have hgk:=Ki hx.fr hg
  cases q with
  |false=>exact Eg hgk (next φ _ w ⟨hx.fr.put hp Iw,hx.rel,hx.dom,hx.old,hx.new,hx.base⟩)
  |true =>
    obtain⟨F',f1,f2,f3,f4⟩:=frzVl_ok hz B φ w _ hx.rel (Ek (K4 hx.fr (hn rfl)) ha)
    refine Ci hgk he (hf rfl F' w _ f3.fro f4) ?_
    rintro v w' ⟨hb,F'',h1,h2,h3,h4⟩
    have hh:Holds B F n x φ σ w':=hx.called hb (fun _ _ e=>e) (fun b o e=>(hb.block b (C9 (hx.rel.fro b o e))).trans (hx.rel.fro b o e)) (fun _ _ e => .inl e)
    exact next _ _ _ ⟨hh.fr.put hp (Kv (Pc hr h4)),hh.rel,hh.dom,hh.old,hh.new,hh.base⟩
theorem Q20 {rest : List Oper} {t t' : TypeId} {X : Operand} {dst : Option Tmp} {ty : TypeId} {ps : String} {af : Array Edge} {g : Option (Nat × Bool)} {sz m e : Nat} {G : Nat → AV} {nl : Operand}
    (hg:Cn ops x.s g=true) (hX:evA x.s X=some (.row sz m G)) (hN:evA x.s nl=some .nils) (ht:Fz P t=some e)
    (hp:∀q:Bool,∃s',Bw n dst (.bool q) x.s=some s'∧((q=true→m=0)→SO P n ops rest B F K ⟨s',x.h,x.nx⟩)):SO P n ops (⟨dst,.binOp .eql t X nl t',ty,ps,af,g⟩::rest) B F K x:=by
  intro φ σ w hx
  have v1:=hx.fr.ev _ _ hX
  have v2:=hx.fr.ev _ _ hN
  simp only[VR] at v1 v2
  obtain⟨u,hu,hr⟩:=v1
  have hu':=El ht
  have run:∀(a:Option Addr) (l c:Nat),ev n σ X = .slice a l c→(execOp (ev n σ) ⟨dst,.binOp .eql t X nl t',ty,ps,af,g⟩).run P w = .ok (.value (.bool a.isNone)) w:=by
    intro a l c hv
    have heq:∀w,(Op.equal t (.slice a l c) (.slice none 0 0)).run P w = .ok a.isNone w:=by
      intro w
      unfold Op.equal Op.maxDepth Op.equalIn
      cases a<;>simp[run_underlying hu',go_sem]
    have hbin:∀w,(binOp .eql t (.slice a l c) (.slice none 0 0)).run P w = .ok (.bool a.isNone) w:=fun w=>by simp[binOp,heq,go_sem]
    simp only[execOp,hv,v2,Sem.run_bind,Nk w (op:=.eql) (t:=t) (x:=X) (y:=nl) (a:=.slice a l c) (b:=.slice none 0 0) (by simp) (by simp),Result.andThen_ok,hbin,Sem.run_pure]
  rcases hr with⟨h0,hv|⟨a,c,hv⟩⟩|⟨b,o,c,hv,_⟩
  · obtain⟨s',h1,h2⟩:=hp true
    exact Bz (Cs hx.fr hg) (run none 0 0 hv) (h2 (fun _=>h0) φ _ w ⟨hx.fr.put h1 (by simp only[VR];rfl),hx.rel,hx.dom,hx.old,hx.new,hx.base⟩)
  · obtain⟨s',h1,h2⟩:=hp false
    exact Bz (Cs hx.fr hg) (run (some a) 0 c hv) (h2 (fun e=>by cases e) φ _ w ⟨hx.fr.put h1 (by simp only[VR];rfl),hx.rel,hx.dom,hx.old,hx.new,hx.base⟩)
  · obtain⟨s',h1,h2⟩:=hp false
    exact Bz (Cs hx.fr hg) (run (some ⟨b,o,none⟩) m c hv) (h2 (fun e=>by cases e) φ _ w ⟨hx.fr.put h1 (by simp only[VR];rfl),hx.rel,hx.dom,hx.old,hx.new,hx.base⟩)
end
end Sv
end
section
open Go Go.RowKit
namespace Sv
section
variable {P : Program} {B : Bas} {w : World} {F F0 : Cx} {n : Nat} {φ : Phi} {σ : Nat → Value} {K : Exit → St → Prop} {x y : St} {ops : Array Oper}
def X7h (s:Fr) (t f:Nat) (cap:List AV):Prop:=B2 t s=some (.fn f [] cap)∨∃q,B2 t s=some (.cond q (.fn f [] cap))∧q=true
theorem X6d {rest : List Oper} {t : Nat} {f : FuncId} {cap : List AV} {ar : Array Operand} {ts : Array TypeId} {ty : TypeId} {ps : String} {dst : Option Tmp} {af : Array Edge} {g : Option (Nat × Bool)} {al : List AV} {r : AV} {s' : Fr} {q : Bool}
    (hg:G0 ops x.s g=some q) (hc:q=true→X7h x.s t f cap) (he:Aj P f) (ha:Df (He ar.toList (evA x.s)) ar.toList=some al) (hn:q=true→Bh (D1 (evA x.s) ar.toList)) (hz:frzl (al++cap)=true) (hf:q=true→FnV P f (al++cap) r) (hp:Bw n dst (.cond q r) x.s=some s')
    (next:SO P n ops rest B F K ⟨s',x.h,x.nx⟩):SO P n ops (⟨dst,.call { callee:=.value (.tmp t),args:=ar,argTypes:=ts },ty,ps,af,g⟩::rest) B F K x:=by
  intro φ σ w hx
  have hgk:=Ki hx.fr hg
  cases q with
  |false=>exact Eg hgk (next φ _ w ⟨hx.fr.put hp Iw,hx.rel,hx.dom,hx.old,hx.new,hx.base⟩)
  |true =>
    have hfn:VR φ (.fn f [] cap) (sl n σ t):=by
      rcases hc rfl with h|⟨q',h,hq⟩
      · exact hx.fr _ _ h
      · exact(hx.fr _ _ h).condT hq
    simp only[VR] at hfn
    obtain⟨vf,vc,h1,h2,h3⟩:=hfn
    have:=h1.nil_inv;subst this
    have hv:=((Ek (K4 hx.fr (hn rfl)) ha).append h2).fz hz
    refine N2 (x:=.tmp t) (cap:=vc.toArray) hgk h3 he (hf rfl φ.f w (List.map (ev n σ) ar.toList++vc) hx.rel.fro hv) ?_
    rintro v w' ⟨hb,F',h1,h2,h3,h4⟩
    have hh:=hx.called hb h1 h2 h3
    exact next _ _ _ ⟨hh.fr.put hp (Kv (h4.mono (Phi.le_fz ⟨φ.m,φ.s,F'⟩))),hh.rel,hh.dom,hh.old,hh.new,hh.base⟩
end
end Sv
end
section
open Go Go.RowKit
namespace Sv
theorem Imp.fp {a b:AV} (h:Imp a b):Imp (.fp a) (.fp b):=fun φ v k=>by
  simp only[VR] at k ⊢
  obtain⟨c,o,u,e,k1,r⟩:=k
  exact⟨c,o,u,e,h _ _ k1,r⟩
theorem Imp.aggs {l m:List AV} (h:∀φ vs,VRl φ l vs→VRl φ m vs):Imp (.agg l) (.agg m):=fun φ v k=>by
  simp only[VR] at k ⊢
  obtain⟨vs,k1,e⟩:=k
  exact⟨vs,h _ _ k1,e⟩
theorem Imp.tups {l m:List AV} (h:∀φ vs,VRl φ l vs→VRl φ m vs):Imp (.tup l) (.tup m):=fun φ v k=>by
  simp only[VR] at k ⊢
  obtain⟨vs,k1,e⟩:=k
  exact⟨vs,h _ _ k1,e⟩
theorem Hy (q:Bool) {G:Prop} (h1:q=true→G) (h0:q=false→G):G:=match q,h1,h0 with
  |true,h1,_=>h1 rfl
  |false,_,h0=>h0 rfl
section
variable {P : Program} {B : Bas} {F F0 : Cx} {n : Nat} {KK : St → Prop} {x x' : St} {E E' : Bool} {ops : Array Oper} {fuel fuel' : Nat} {listed listed' : Array Bool}
theorem B5 (E':Bool) (fuel':Nat) (listed':Array Bool) (x':St) (h:SG P n ops B F KK F0 E' fuel' listed' x') (k:SG P n ops B F KK F0 E' fuel' listed' x'→SG P n ops B F KK F0 E fuel listed x):SG P n ops B F KK F0 E fuel listed x:=k h
theorem X6o (m:SG P n ops B F KK F0 E' fuel' listed' x') (hE:E'=E) (hf:fuel'=fuel) (hl:listed'=listed) (hx:x'=x):SG P n ops B F KK F0 E fuel listed x:=by
  subst hE;subst hf;subst hl;subst hx;exact m
end
end Sv
end
section
open Go Go.RowKit
namespace Sv
def Yw (l:Nat) (J:Act→World→Prop) (Q:Exit→Act→World→Prop):Exit→Act→World→Prop
  |.goto l',a,w=>l'=l∧J a w
  |e,a,w=>Q e a w
theorem Q3n {P : Program} {Q : Exit → Act → World → Prop} {c rest : Code} {a : Act} {w : World} (l : Nat) (hf : findLabel c l = some rest) (I : Nat → Act → World → Prop)
    (first:c.wp P (Yw l (fun a w=>∃g,I g a w) Q) a w)
    (pass:∀g a w,I g a w→rest.wp P (Yw l (fun a w=>∃g',g' < g∧I g' a w) Q) a w):(Code.scope c).wp P Q a w:=by
  intro b k cs
  have hg:gotoIn l (.inScope c::k)=some (.code rest :: .inScope c::k):=by simp[gotoIn,hf]
  have key:∀g a w,I g a w→∃e a' w',Q e a' w'∧Arrives P (lone (b.at a (.code rest :: .inScope c::k)) cs w) b k cs e a' w':=by
    intro g
    induction g using Nat.strongRecOn with
    |_ g ih =>
      intro a w hI
      obtain⟨e,a₁,w₁,hq,harr⟩:=pass g a w hI b (.inScope c::k) cs
      cases e with
      |normal=>exact⟨.normal,a₁,w₁,hq,Steps.trans harr (.one step_inScope)⟩
      |exit id=>exact⟨.exit id,a₁,w₁,hq,fun k' hk=>harr k' (by simp[exitTo,hk])⟩
      |goto l' =>
        obtain⟨rfl,g',hlt,hI'⟩:=hq
        obtain⟨e₂,a₂,w₂,hq₂,harr₂⟩:=ih g' hlt a₁ w₁ hI'
        exact⟨e₂,a₂,w₂,hq₂,.of_steps (harr _ hg) harr₂⟩
      |ret=>exact⟨_,a₁,w₁,hq,harr⟩
      |panic ch=>exact⟨_,a₁,w₁,hq,harr⟩
      |outgrown=>exact⟨_,a₁,w₁,hq,harr⟩
  obtain⟨e,a₁,w₁,hq,harr⟩:=first b (.inScope c::k) cs
  cases e with
  |normal=>exact⟨.normal,a₁,w₁,hq,.of_steps (.one step_scope) (Steps.trans harr (.one step_inScope))⟩
  |exit id=>exact⟨.exit id,a₁,w₁,hq,.of_steps (.one step_scope) (fun k' hk=>harr k' (by simp[exitTo,hk]))⟩
  |goto l' =>
    obtain⟨rfl,g,hI⟩:=hq
    obtain⟨e₂,a₂,w₂,hq₂,harr₂⟩:=key g a₁ w₁ hI
    exact⟨e₂,a₂,w₂,hq₂,.of_steps (.one step_scope) (.of_steps (harr _ hg) harr₂)⟩
  |ret=>exact⟨_,a₁,w₁,hq,.of_steps (.one step_scope) harr⟩
  |panic ch=>exact⟨_,a₁,w₁,hq,.of_steps (.one step_scope) harr⟩
  |outgrown=>exact⟨_,a₁,w₁,hq,.of_steps (.one step_scope) harr⟩
def Py (l:Nat) (J:St→Prop) (K:Exit→St→Prop):Exit→St→Prop
  |.goto l',x=>l'=l∧J x
  |e,x=>K e x
section
variable {P : Program} {B : Bas} {F : Cx} {n : Nat} {K : Exit → St → Prop} {x : St}
theorem Jr {l:Nat} (h:K (.goto l) x):SW P n (.goto l) B F K x:=fun φ σ w hx=>X49 ⟨x,φ,hx,h⟩
theorem X52 {c:Code} {K K':Exit→St→Prop} (h:SW P n c B F K x) (m:∀e y,K e y→K' e y):SW P n c B F K' x:=fun φ σ w hx=>W_mono (h φ σ w hx) fun e σ' w' ⟨y,φ',h1,h2⟩=>⟨y,φ',h1,m e y h2⟩
theorem Qy {c c2 : Code} (l : Nat) (hf : findLabel c l = some (.seq .skip c2)) (I : Nat → St → Prop) (ts : List Nat) (m : Nat) (hlo : F.lo ≤ m)
    (first:(∀g y,I g y→SW P n c2 B F (Py l (fun z=>∃z',gcS ts m z=some z'∧∃g,I g z') K) y)→SW P n c B F (Py l (fun z=>∃z',gcS ts m z=some z'∧∃g,I g z') K) x)
    (round:∀g y,I g y→SW P n c2 B F (Py l (fun z=>∃z',gcS ts m z=some z'∧∃g',g' < g∧I g' z') K) y):SW P n (.scope c) B F K x:=by
  have hr:∀g y,I g y→SW P n c2 B F (Py l (fun z=>∃z',gcS ts m z=some z'∧∃g,I g z') K) y:=fun g y hI=>X52 (round g y hI) fun e z hz=>by
    cases e with
    |goto l'=>obtain⟨e,z',h1,g',_,h2⟩:=hz;exact⟨e,z',h1,g',h2⟩
    |_=>exact hz
  intro φ σ w hx
  unfold W
  refine Q3n l hf (fun g a w=>∃σ,a=mk n σ∧∃y φ,Holds B F n y φ σ w∧I g y) ?_ ?_
  · have h1:=first hr φ σ w hx
    unfold W at h1
    refine wp_mono h1 ?_
    rintro e a w' ⟨σ',rfl,y,φ',hy,hk⟩
    cases e with
    |goto l'=>obtain⟨e,z',hz,g,hI⟩:=hk;exact⟨e,g,σ',rfl,z',_,hy.gc hlo hz,hI⟩
    |_=>exact⟨σ',rfl,y,φ',hy,hk⟩
  · rintro g a w ⟨σ,rfl,y,φ,hy,hI⟩
    have h1:=Ab (Ah (round g y hI)) φ σ w hy
    unfold W at h1
    refine wp_mono h1 ?_
    rintro e a w' ⟨σ',rfl,y',φ',hy',hk⟩
    cases e with
    |goto l'=>obtain⟨e,z',hz,g',hlt,hI'⟩:=hk;exact⟨e,g',hlt,σ',rfl,z',_,hy'.gc hlo hz,hI'⟩
    |_=>exact⟨σ',rfl,y',φ',hy',hk⟩
end
end Sv
end
section
open Go Go.RowKit
namespace Sv
noncomputable def Pd:List AV→Bool
  |[]=>true
  |a::l=>Lg a&&Pd l
noncomputable def Wr:AV→Bool
  |.tup l=>Pd l
  |a=>Lg a
theorem Ws:∀{l:List AV} {φ φ':Phi} {vs:List Value},Pd l=true→VRl φ l vs→VRl φ' l vs
  |[],_,_,_,_,k=>by rw[k.nil_inv];exact .nil
  |a::l,_,_,_,h,k=>by
    simp only[Pd,Bool.and_eq_true] at h
    obtain⟨v,vs',rfl,h1,h2⟩:=k.cons_inv
    exact .cons (Pc h.1 h1) (Ws h.2 h2)
theorem Q6v {φ φ':Phi} {a:AV} {v:Value} (h:Wr a=true) (k:VR φ a v):VR φ' a v:=by
  cases a
  case tup l =>
    simp only[VR] at k ⊢
    obtain⟨vs,k1,e⟩:=k
    exact⟨vs,Ws h k1,e⟩
  all_goals exact Pc h k
section
variable {P : Program} {B : Bas} {F : Cx} {n : Nat} {K : Exit → St → Prop} {x : St} {ops : Array Oper}
theorem Q22 {rest : List Oper} {t : Nat} {f : FuncId} {cap : List AV} {ar : Array Operand} {ts : Array TypeId} {ty : TypeId} {ps : String} {dst : Option Tmp} {af : Array Edge} {g : Option (Nat × Bool)} {al al' : List AV} {h' : AH} {r : AV} {s' : Fr}
    (hg:Cn ops x.s g=true) (hc:B2 t x.s=some (.fn f [] cap)) (he:Aj P f) (ha:Df (evA x.s) ar.toList=some al) (hz:frzVl P x.h (al++cap)=some (al',h')) (hf:FnV P f al' r) (hr:Wr r=true) (hp:Bw n dst r x.s=some s')
    (next:SO P n ops rest B F K ⟨s',x.h,x.nx⟩):SO P n ops (⟨dst,.call { callee:=.value (.tmp t),args:=ar,argTypes:=ts },ty,ps,af,g⟩::rest) B F K x:=by
  intro φ σ w hx
  have hfn:=hx.fr _ _ hc
  simp only[VR] at hfn
  obtain⟨vf,vc,h1,h2,h3⟩:=hfn
  have:=h1.nil_inv;subst this
  obtain⟨F',f1,f2,f3,f4⟩:=frzVl_ok hz B φ w _ hx.rel ((Ek hx.fr.ev ha).append h2)
  refine N2 (x:=.tmp t) (cap:=vc.toArray) (Cs hx.fr hg) h3 he (by simpa using hf F' w _ f3.fro f4) ?_
  rintro v w' ⟨hb,F'',h1,h2,h3,h4⟩
  have hh:Holds B F n x φ σ w':=hx.called hb (fun _ _ e=>e) (fun b o e=>(hb.block b (C9 (hx.rel.fro b o e))).trans (hx.rel.fro b o e)) (fun _ _ e => .inl e)
  exact next _ _ _ ⟨hh.fr.put hp (Q6v hr h4),hh.rel,hh.dom,hh.old,hh.new,hh.base⟩
end
end Sv
end
section
open Go Go.RowKit
namespace Sv
section
variable {P : Program} {n : Nat}
def HasI (s:Fr) (X:Operand) (k:IntKind) (a:Int):Prop:=evA s X=some (.int k a)∨∃q,evA s X=some (.cond q (.int k a))∧q=true
theorem HasI.get {φ:Phi} {σ:Nat→Value} {s:Fr} {X:Operand} {k:IntKind} {a:Int} (h:HasI s X k a) (hf:FRel φ n s σ):ev n σ X = .int k a:=by
  rcases h with h|⟨q,h,hq⟩
  · have:=hf.ev _ _ h;simpa only [VR] using this
  · have:=hf.ev _ _ h
    simp only[VR] at this
    exact this.1 hq
theorem Nu {dst : Option Tmp} {X Y : Operand} {t t' ty : TypeId} {ps : String} {af : Array Edge} {g : Option (Nat × Bool)} {s : Fr} {k : IntKind} {a b : Int} (hx : HasI s X k a) (hy : HasI s Y k b) (φ : Phi) (σ : Nat → Value) (h : FRel φ n s σ) :
    ∃v,(∀w,(execOp (ev n σ) ⟨dst,.binOp .and t X Y t',ty,ps,af,g⟩).run P w = .ok (.value v) w)∧VR φ (.int k (Go.bits .and k a b)) v:=by
  have h1:=hx.get h
  have h2:=hy.get h
  exact⟨.int k (Go.bits .and k a b),fun w=>by simp[execOp,h1,h2,go_sem],by simp only[VR]⟩
end
end Sv
end
section
open Go Go.RowKit
namespace Sv
structure Hint where
  i:Nat
  f:Nat
  al:List AV
  r:AV
  c:Bool
  q:Bool
def HOk (P:Program):List Hint→Prop
  |[]=>True
  |h::l=>(h.q=true→Aj P h.f∧FnV P h.f h.al h.r)∧HOk P l
theorem hk0 {P:Program}:HOk P []:=trivial
theorem hk {P:Program} (i:Nat) {f:Nat} {al:List AV} {r:AV} {l:List Hint} (he:Aj P f) (hf:FnV P f al r) (h:HOk P l):HOk P (⟨i,f,al,r,false,true⟩::l):=⟨fun _=>⟨he,hf⟩,h⟩
theorem hkg {P:Program} (i:Nat) (q:Bool) {f:Nat} {al:List AV} {r:AV} {l:List Hint} (he:Aj P f) (hf:q=true→FnV P f al r) (h:HOk P l):HOk P (⟨i,f,al,r,true,q⟩::l):=⟨fun k=>⟨he,hf k⟩,h⟩
noncomputable def Ni:List Hint→Nat→Option Hint
  |[],_=>none
  |h::l,i=>bif Nat.beq h.i i then some h else Ni l i
theorem Td {P:Program}:∀{l:List Hint} {i:Nat} {h:Hint},HOk P l→Ni l i=some h→h.q=true→Aj P h.f∧FnV P h.f h.al h.r
  |[],_,_,_,e,_=>by cases e
  |a::l,i,h,k,e,q=>by
    unfold Ni at e
    cases hb:Nat.beq a.i i with
    |true=>rw[hb] at e;cases e;exact k.1 q
    |false=>rw[hb] at e;exact Td k.2 e q
def COk:List (Nat × Prop)→Prop
  |[]=>True
  |c::l=>c.2∧COk l
theorem c0:COk []:=trivial
theorem cc (i:Nat) {p:Prop} {l:List (Nat × Prop)} (h:p) (k:COk l):COk ((i,p)::l):=⟨h,k⟩
noncomputable def G3:List (Nat × Prop)→Nat→Prop
  |[],_=>True
  |c::l,i=>bif Nat.beq c.1 i then c.2 else G3 l i
theorem P8:∀{l:List (Nat × Prop)} (i:Nat),COk l→G3 l i
  |[],_,_=>trivial
  |c::l,i,k=>by
    unfold G3
    cases hb:Nat.beq c.1 i with
    |true=>exact k.1
    |false=>exact P8 i k.2
structure Conv where
  i:Nat
  t:Nat
  a:AV
  b:AV
def VOk:List Conv→Prop
  |[]=>True
  |v::l=>Imp v.a v.b∧VOk l
theorem v0:VOk []:=trivial
theorem vk (i t:Nat) {a b:AV} {l:List Conv} (h:Imp a b) (k:VOk l):VOk (⟨i,t,a,b⟩::l):=⟨h,k⟩
noncomputable def Ir (i:Nat):Option Prop→List (Nat × Prop)→List (Nat × Prop)
  |none,l=>l
  |some p,l=>(i,p)::l
noncomputable def S3 (q:Bool):Option Prop→Option Prop
  |none=>none
  |some p=>some (q=true→p)
noncomputable def T4 (n:Nat) (ops:Array Oper) (h:Hint) (o:Oper) (x:St):Option (St × Option Prop × List AV × Bool):=match o.op with
  | .call { callee := .value (.func f), args := ar, argTypes := _ } => bif Nat.beq f h.f then
      (bif h.c then (match G0 ops x.s o.guard with
        |some q=>match Df (He ar.toList (evA x.s)) ar.toList with
          |some al=>bif frzl al then (match Bw n o.dst (.cond q h.r) x.s with
            |some s'=>some (⟨s',x.h,x.nx⟩,S3 q (D1 (evA x.s) ar.toList),al,q)
            |none=>none) else none
          |none=>none
        |none=>none)
      else bif Cn ops x.s o.guard then (match Df (evA x.s) ar.toList with
          |some al=>bif frzl al then (match Bw n o.dst h.r x.s with
            |some s'=>some (⟨s',x.h,x.nx⟩,none,al,true)
            |none=>none) else none
          |none=>none) else none) else none
  |_=>none
noncomputable def F5 (i:Nat):List Conv→St→Option (St × List AV)
  |[],x=>some (x,[])
  | v :: l, x => bif Nat.beq v.i i then (match B2 v.t x.s with
      |some a=>match F5 i l ⟨E1 v.t v.b x.s,x.h,x.nx⟩ with
        |some (y,m)=>some (y,a::m)
        |none=>none
      |none=>none) else F5 i l x
noncomputable def F6 (i:Nat):List Conv→List AV
  |[]=>[]
  |v::l=>bif Nat.beq v.i i then v.a::F6 i l else F6 i l
noncomputable def Gt (P:Program) (i:Nat):List (Nat × Nat)→St→Option St
  |[],x=>some x
  | t :: l, x => bif Nat.beq t.1 i then (match Mn P t.2 x with
      |some y=>Gt P i l y
      |none=>none) else Gt P i l x
noncomputable def K7 (P:Program) (n:Nat) (ops:Array Oper) (lz:List Nat) (H:List Hint) (i:Nat) (o:Oper) (x:St):Option (St × Option Prop × Option (List AV × Bool)):=match Ni H i with
  |none=>match I3 P n ops lz o x with
    |some (y,C)=>some (y,C,none)
    |none=>none
  |some h=>match T4 n ops h o x with
    |some (y,C,A)=>some (y,C,some A)
    |none=>none
noncomputable def L8 (i:Nat) (A:Option (List AV × Bool)) (l:List (Nat × List AV × Bool)):List (Nat × List AV × Bool):=match A with
  |none=>l
  |some a=>(i,a)::l
noncomputable def Gz (H:List Hint) (i:Nat):List AV × Bool:=match Ni H i with
  |some h=>(h.al,h.q)
  |none=>([],false)
section
variable {P : Program} {B : Bas} {w : World} {F F0 : Cx} {n : Nat} {φ : Phi} {σ : Nat → Value} {K : Exit → St → Prop} {KK : St → Prop} {x y : St} {E : Bool} {ops : Array Oper} {fuel : Nat} {listed : Array Bool} {H : List Hint} {lz : List Nat} {i : Nat} {o : Oper} {C : Option Prop} {A : Option (List AV × Bool)}
theorem Q1m {h : Hint} {al : List AV} {q : Bool} (hc : T4 n ops h o x = some (y, C, al, q)) : ∃ dst ty ps af g ar ts s', o = ⟨dst, .call { callee := .value (.func h.f), args := ar, argTypes := ts }, ty, ps, af, g⟩ ∧ frzl al = true ∧ y = ⟨s', x.h, x.nx⟩ ∧
    ((G0 ops x.s g=some q∧Df (He ar.toList (evA x.s)) ar.toList=some al∧Bw n dst (.cond q h.r) x.s=some s'∧C=S3 q (D1 (evA x.s) ar.toList)) ∨
    (Cn ops x.s g=true∧Df (evA x.s) ar.toList=some al∧Bw n dst h.r x.s=some s'∧q=true)):=by
  obtain⟨dst,op,ty,ps,af,g⟩:=o
  unfold T4 at hc
  split at hc
  · rename_i f ar ts hop
    simp only at hop hc
    subst hop
    cases hb:Nat.beq f h.f with
    |false=>rw[hb] at hc;cases hc
    |true =>
      have hf:=Nat.eq_of_beq_eq_true hb
      rw[hb,cond_true] at hc
      cases hcc:h.c with
      |true =>
        rw[hcc,cond_true] at hc
        split at hc
        · rename_i q' hg
          split at hc
          · rename_i al' hal
            cases hz:frzl al' with
            |false=>rw[hz] at hc;cases hc
            |true =>
              rw[hz,cond_true] at hc
              split at hc
              · rename_i s' hp
                simp only[Option.some.injEq,Prod.mk.injEq] at hc
                obtain⟨rfl,rfl,rfl,rfl⟩:=hc
                exact⟨_,_,_,_,_,_,_,_,by rw[hf],hz,rfl,.inl ⟨hg,hal,hp,rfl⟩⟩
              · cases hc
          · cases hc
        · cases hc
      |false =>
        rw[hcc,cond_false] at hc
        cases hg:Cn ops x.s g with
        |false=>rw[hg] at hc;cases hc
        |true =>
          rw[hg,cond_true] at hc
          split at hc
          · rename_i al' hal
            cases hz:frzl al' with
            |false=>rw[hz] at hc;cases hc
            |true =>
              rw[hz,cond_true] at hc
              split at hc
              · rename_i s' hp
                simp only[Option.some.injEq,Prod.mk.injEq] at hc
                obtain⟨rfl,rfl,rfl,rfl⟩:=hc
                exact⟨_,_,_,_,_,_,_,_,by rw[hf],hz,rfl,.inr ⟨hg,hal,hp,rfl⟩⟩
              · cases hc
          · cases hc
  · cases hc
theorem Zf {q:Bool} {c:Option Prop} (h:Bh (S3 q c)) (k:q=true):Bh c:=by
  cases c with
  |none=>trivial
  |some p=>exact h k
theorem X58 {rest:List Oper} {dst:Option Tmp} {op:Op} {ty:TypeId} {ps:String} {af:Array Edge} {g:Option (Nat × Bool)} {r:AV} {s':Fr} (hg:G0 ops x.s g=some false) (hp:Bw n dst (.cond false r) x.s=some s') (next:SO P n ops rest B F K ⟨s',x.h,x.nx⟩):SO P n ops (⟨dst,op,ty,ps,af,g⟩::rest) B F K x:=by
  unfold SO at next ⊢
  intro φ σ w hx
  exact Eg (Ki hx.fr hg) (next φ _ w ⟨hx.fr.put hp Iw,hx.rel,hx.dom,hx.old,hx.new,hx.base⟩)
theorem Q4r {rest:List Oper} (hc:K7 P n ops lz H i o x=some (y,C,A)) (hC:Bh C) (hH:HOk P H) (hA:∀a,A=some a→a=Gz H i) (next:SO P n ops rest B F K y):SO P n ops (o::rest) B F K x:=by
  unfold K7 at hc
  split at hc
  · split at hc
    · rename_i z D hz
      cases hc
      intro φ σ w hx
      exact Rr hx hz hC fun φ' σ' w' hh e=>next φ' σ' w' hh
    · cases hc
  · rename_i h hh
    split at hc
    · rename_i z D a hz
      cases hc
      obtain⟨al,q⟩:=a
      have ha:=hA _ rfl
      unfold Gz at ha
      rw[hh] at ha
      simp only[Prod.mk.injEq] at ha
      have hok:=Td hH hh
      rw[←ha.1,←ha.2] at hok
      obtain⟨dst,ty,ps,af,g,ar,ts,s',rfl,hf,rfl,⟨h1,h2,h3,rfl⟩|⟨h1,h2,h3,rfl⟩⟩:=Q1m hz
      · cases q with
        |true=>exact X6f h1 (hok rfl).1 h2 (Zf hC) hf (fun _=>(hok rfl).2) h3 next
        |false=>exact X58 h1 h3 next
      · exact Jt h1 (hok rfl).1 h2 hf (hok rfl).2 h3 next
    · cases hc
theorem X6j (i : Nat) {dst : Option Tmp} {op : Op} {ty : TypeId} {ps : String} {af : Array Edge} {g : Option (Nat × Bool)} {r : AV} {s' : Fr} (hi : ops[i]? = some ⟨dst, op, ty, ps, af, g⟩) (hg : G0 ops x.s g = some false) (hp : Bw n dst (.cond false r) x.s = some s')
    (next:SG P n ops B F KK F0 false fuel (listed.setIfInBounds i true) ⟨s',x.h,x.nx⟩):SN P n ops B F KK F0 E fuel listed i x:=by
  intro φ σ w hx hE
  refine⟨_,hi,?_⟩
  unfold SG at next
  have hh':Holds B F0 n ⟨s',x.h,x.nx⟩ φ (Bj σ dst undef) w:=⟨hx.fr.put hp Iw,hx.rel,hx.dom,hx.old,hx.new,hx.base⟩
  exact Eg (Ki hx.fr hg) (Bd ⟨rfl,hh'.hold,next _ _ _ hh' (fun q=>by cases q)⟩)
theorem Q4s (hi:ops[i]? = some o) (hc:K7 P n ops lz H i o x=some (y,C,A)) (hC:Bh C) (hH:HOk P H) (hA:∀a,A=some a→a=Gz H i) (next:SG P n ops B F KK F0 (E&&A.isNone) fuel (listed.setIfInBounds i true) y):SN P n ops B F KK F0 E fuel listed i x:=by
  unfold K7 at hc
  split at hc
  · split at hc
    · rename_i z D hz
      cases hc
      rw[show(E&&(none:Option (List AV × Bool)).isNone)=E by simp] at next
      exact Q24 i lz hi hz hC next
    · cases hc
  · rename_i h hh
    split at hc
    · rename_i z D a hz
      cases hc
      rw[show(E&&(some a).isNone)=false by simp] at next
      obtain⟨al,q⟩:=a
      have ha:=hA _ rfl
      unfold Gz at ha
      rw[hh] at ha
      simp only[Prod.mk.injEq] at ha
      have hok:=Td hH hh
      rw[←ha.1,←ha.2] at hok
      obtain⟨dst,ty,ps,af,g,ar,ts,s',rfl,hf,rfl,⟨h1,h2,h3,rfl⟩|⟨h1,h2,h3,rfl⟩⟩:=Q1m hz
      · cases q with
        |true=>exact X6l i hi h1 (hok rfl).1 h2 (Zf hC) hf (fun _=>(hok rfl).2) h3 next
        |false=>exact X6j i hi h1 h3 next
      · exact X6m i hi h1 (hok rfl).1 h2 hf (hok rfl).2 h3 next
    · cases hc
noncomputable def D8 (P:Program) (n:Nat) (ops:Array Oper) (lz:List Nat) (H:List Hint) (V:List Conv) (T:List (Nat × Nat)):Nat→List Oper→St→Option (St × List (Nat × Prop) × List (Nat × List AV × Bool) × List (Nat × List AV))
  |_,[],x=>some (x,[],[],[])
  |i,o::l,x=>match Gt P i T x with
    |some x0=>match F5 i V x0 with
      |some (x1,m)=>match K7 P n ops lz H i o x1 with
        |some (y,C,A)=>match D8 P n ops lz H V T (i+1) l y with
          |some (z,cs,ms,vs)=>some (z,Ir i C cs,L8 i A ms,(i,m)::vs)
          |none=>none
        |none=>none
      |none=>none
    |none=>none
def Ky (H:List Hint) (V:List Conv) (CS:List (Nat × Prop)) (cs:List (Nat × Prop)) (ms:List (Nat × List AV × Bool)) (vs:List (Nat × List AV)):Prop :=
  (∀c∈cs,c.2=G3 CS c.1)∧(∀a∈ms,a.2=Gz H a.1)∧∀v∈vs,v.2=F6 v.1 V
theorem Rp {j:Nat} {l:List Oper}:∀{T:List (Nat × Nat)} {x y:St},Gt P j T x=some y→SO P n ops l B F K y→SO P n ops l B F K x
  |[],x,y,h,k=>by cases h;exact k
  |t::r,x,y,h,k=>by
    unfold Gt at h
    cases hb:Nat.beq t.1 j with
    |false=>rw[hb,cond_false] at h;exact Rp h k
    |true =>
      rw[hb,cond_true] at h
      split at h
      · rename_i z hz;exact X57 _ hz (Rp h k)
      · cases h
theorem T0 {j:Nat} {l:List Oper}:∀{V:List Conv} {x y:St} {m:List AV},VOk V→F5 j V x=some (y,m)→m=F6 j V→SO P n ops l B F K y→SO P n ops l B F K x
  |[],x,y,m,_,h,_,k=>by cases h;exact k
  |v::r,x,y,m,hV,h,hm,k=>by
    unfold F5 at h
    unfold F6 at hm
    cases hb:Nat.beq v.i j with
    |false=>rw[hb,cond_false] at h hm;exact T0 hV.2 h hm k
    |true =>
      rw[hb,cond_true] at h hm
      split at h
      · rename_i a ha
        split at h
        · rename_i z m' hz
          cases h
          simp only[List.cons.injEq] at hm
          exact Js _ _ ha (by rw[hm.1];exact hV.1) (T0 hV.2 hz hm.2 k)
        · cases h
      · cases h
theorem Wb {V : List Conv} {T : List (Nat × Nat)} {CS : List (Nat × Prop)} (hH : HOk P H) (hV : VOk V) (hCS : COk CS) : ∀ {l rest : List Oper} {i : Nat} {x y : St} {cs : List (Nat × Prop)} {ms : List (Nat × List AV × Bool)} {vs : List (Nat × List AV)},
    D8 P n ops lz H V T i l x=some (y,cs,ms,vs)→Ky H V CS cs ms vs→SO P n ops rest B F K y→SO P n ops (l++rest) B F K x
  |[],rest,i,x,y,cs,ms,vs,h,_,k=>by cases h;exact k
  |o::l,rest,i,x,y,cs,ms,vs,h,hf,k=>by
    unfold D8 at h
    split at h
    · rename_i x0 h0
      split at h
      · rename_i x1 m h1
        split at h
        · rename_i z C A hz
          split at h
          · rename_i u cs' ms' vs' hr
            simp only[Option.some.injEq,Prod.mk.injEq] at h
            obtain⟨rfl,rfl,rfl,rfl⟩:=h
            obtain⟨f1,f2,f3⟩:=hf
            have hC:Bh C:=by
              cases C with
              |none=>trivial
              |some p =>
                have e:p=G3 CS i:=f1 (i,p) (by simp[Ir])
                show p
                rw[e];exact P8 i hCS
            have hA:∀a,A=some a→a=Gz H i:=by
              rintro a rfl
              exact f2 (i,a) (by simp[L8])
            have f':Ky H V CS cs' ms' vs':=by
              refine⟨fun c hc=>f1 c ?_,fun a ha=>f2 a ?_,fun v hv=>f3 v (by simp[hv])⟩
              · cases C<;>simp[Ir,hc]
              · cases A<;>simp[L8,ha]
            exact Rp h0 (T0 hV h1 (f3 (i,m) (by simp)) (Q4r hz hC hH hA (Wb hH hV hCS hr f' k)))
          · cases h
        · cases h
      · cases h
    · cases h
noncomputable def Ev (ts:List Nat) (r:Option (St × List (Nat × Prop) × List (Nat × List AV × Bool) × List (Nat × List AV))):Option (St × List (Nat × Prop) × List (Nat × List AV × Bool) × List (Nat × List AV)):=match r with
  |some (y,q)=>match Fu ts y.s with
    |some s=>some (⟨s,y.h,y.nx⟩,q)
    |none=>none
  |none=>none
noncomputable def stO (r:Option (St × List (Nat × Prop) × List (Nat × List AV × Bool) × List (Nat × List AV))):St:=match r with
  |some (y,_)=>y
  |none=>⟨[],[],0⟩
noncomputable def Jx (H:List Hint) (V:List Conv) (CS:List (Nat × Prop)) (r:Option (St × List (Nat × Prop) × List (Nat × List AV × Bool) × List (Nat × List AV))):Option (List (Nat × Prop) × List (Nat × List AV × Bool) × List (Nat × List AV)):=match r with
  |some (_,cs,ms,vs)=>some (cs.map fun c=>(c.1,G3 CS c.1),ms.map fun a=>(a.1,Gz H a.1),vs.map fun v=>(v.1,F6 v.1 V))
  |none=>some ([],[(0,[],true)],[])
noncomputable def Kp (r:Option (St × List (Nat × Prop) × List (Nat × List AV × Bool) × List (Nat × List AV))):Option (List (Nat × Prop) × List (Nat × List AV × Bool) × List (Nat × List AV)):=match r with
  |some (_,q)=>some q
  |none=>none
theorem Lp {α β:Type} {l:List (α × β)} {f:α→β} (h:l=l.map fun c=>(c.1,f c.1)):∀c∈l,c.2=f c.1:=by
  intro c hc
  rw[h] at hc
  obtain⟨d,_,rfl⟩:=List.mem_map.1 hc
  rfl
theorem Q38 {V:List Conv} {CS:List (Nat × Prop)} {r:Option (St × List (Nat × Prop) × List (Nat × List AV × Bool) × List (Nat × List AV))} (h:Kp r=Jx H V CS r):∃y cs ms vs,r=some (y,cs,ms,vs)∧Ky H V CS cs ms vs:=by
  cases r with
  |none=>cases h
  |some q =>
    obtain⟨y,cs,ms,vs⟩:=q
    simp only[Kp,Jx,Option.some.injEq,Prod.mk.injEq] at h
    exact⟨y,cs,ms,vs,rfl,Lp (f:=G3 CS) h.1,Lp (f:=Gz H) h.2.1,Lp (f:=fun j=>F6 j V) h.2.2⟩
theorem Bm {V : List Conv} {CS : List (Nat × Prop)} {l : List Oper} (k i : Nat) (lz ts : List Nat) (T : List (Nat × Nat)) (hH : HOk P H) (hV : VOk V) (hCS : COk CS) (next : SO P n ops (l.drop k) B F K (stO (Ev ts (D8 P n ops lz H V T i (l.take k) x))))
    (h:Kp (Ev ts (D8 P n ops lz H V T i (l.take k) x))=Jx H V CS (Ev ts (D8 P n ops lz H V T i (l.take k) x)):=by kernel_rfl):SO P n ops l B F K x:=by
  obtain⟨y,cs,ms,vs,hr,hf⟩:=Q38 h
  rw[hr] at next
  unfold Ev at hr
  split at hr
  · rename_i z q hz
    split at hr
    · rename_i s hs
      simp only[Option.some.injEq,Prod.mk.injEq] at hr
      obtain⟨rfl,rfl⟩:=hr
      have:=Wb (rest:=l.drop k) hH hV hCS hz hf (fun φ σ w hx=>next φ σ w (hx.sel hs))
      rwa [List.take_append_drop] at this
    · cases hr
  · cases hr
theorem Aw {V : List Conv} {CS : List (Nat × Prop)} {l : List Oper} (i : Nat) (lz ts : List Nat) (T : List (Nat × Nat)) (hH : HOk P H) (hV : VOk V) (hCS : COk CS) (next : K .normal (stO (Ev ts (D8 P n ops lz H V T i l x))))
    (h:Kp (Ev ts (D8 P n ops lz H V T i l x))=Jx H V CS (Ev ts (D8 P n ops lz H V T i l x)):=by kernel_rfl):SO P n ops l B F K x:=by
  refine Bm l.length i lz ts T hH hV hCS ?_ ?_
  · rw[List.take_length,List.drop_length];exact Bo next
  · rw[List.take_length];exact h
theorem Ez {l:List Oper} (lz ts:List Nat) (next:K .normal (stO (Ev ts (D8 P n ops lz [] [] [] 0 l x)))) (h:Kp (Ev ts (D8 P n ops lz [] [] [] 0 l x))=Jx [] [] [] (Ev ts (D8 P n ops lz [] [] [] 0 l x)):=by kernel_rfl):SO P n ops l B F K x:=Aw 0 lz ts [] hk0 v0 c0 next h
theorem Ae {V : List Conv} {CS : List (Nat × Prop)} {id : Nat} {l : List Oper} {d : Code} (lz ts : List Nat) (T : List (Nat × Nat)) (hH : HOk P H) (hV : VOk V) (hCS : COk CS) (next : SW P n d B F K (stO (Ev ts (D8 P n l.toArray lz H V T 0 l x))))
    (h:Kp (Ev ts (D8 P n l.toArray lz H V T 0 l x))=Jx H V CS (Ev ts (D8 P n l.toArray lz H V T 0 l x)):=by kernel_rfl):SW P n (.seq (.region id l.toArray false) d) B F K x:=Ab (Ar (Aw 0 lz ts T hH hV hCS next h))
theorem Aa {id : Nat} {l : List Oper} {d : Code} (lz ts : List Nat) (next : SW P n d B F K (stO (Ev ts (D8 P n l.toArray lz [] [] [] 0 l x)))) (h : Kp (Ev ts (D8 P n l.toArray lz [] [] [] 0 l x)) = Jx [] [] [] (Ev ts (D8 P n l.toArray lz [] [] [] 0 l x)) := by kernel_rfl) :
    SW P n (.seq (.region id l.toArray false) d) B F K x:=Ae lz ts [] hk0 v0 c0 next h
end
theorem Ao:(∀a b:Bool,((a&&b)=true)=(a=true∧b=true))∧(∀a b:Bool,((a||b)=true)=(a=true∨b=true))∧(∀x y:Bool,((x&&y)=false)=(x=false∨y=false))∧(∀x y:Bool,((x||y)=false)=(x=false∧y=false))∧(∀b:Bool,((!b)=true)=(b=false))∧(∀b:Bool,((!b)=false)=(b=true))∧(∀(p:Prop) [Decidable p],(decide p=true)=p)∧(∀(p:Prop) [Decidable p],(decide p=false) = ¬p) :=
  ⟨fun a b=>by simp,fun a b=>by simp,fun x y=>by cases x<;>simp,fun a b=>by simp,fun b=>by simp,fun b=>by simp,fun p _=>by simp,fun p _=>by simp⟩
end Sv
end
section
open Go Go.RowKit
namespace Sv
abbrev Ju:=List St × List (Nat × Prop) × List (Nat × List AV × Bool) × List (Nat × List AV)
noncomputable def noT (i:Nat):List (Nat × Nat)→Bool
  |[]=>true
  |t::l => !Nat.beq t.1 i&&noT i l
noncomputable def Q1l:Op→Bool
  |.call { callee:=.value _,args:=_,argTypes:=_ }=>true
  |_=>false
noncomputable def Ik (P:Program) (E:Bool) (n:Nat) (ops:Array Oper) (lz:List Nat) (V:List Conv) (T:List (Nat × Nat)) (listed:Array Bool) (x:St):List Nat→Option (Nat × List AV × St × Option Prop)
  |[]=>none
  |i::l=>bif Region.free .any ops listed i&&noT i T then (match ops[i]? with
    |some o=>bif Q1l o.op then Ik P E n ops lz V T listed x l else (match F5 i V x with
      |some (x1,m)=>match K8 P E n ops lz o x1 with
        |some (y,C)=>some (i,m,y,C)
        |none=>Ik P E n ops lz V T listed x l
      |none=>Ik P E n ops lz V T listed x l)
    |none=>Ik P E n ops lz V T listed x l) else Ik P E n ops lz V T listed x l
noncomputable def Qh (f:Nat→Option Ju):List Nat→Option Ju
  |[]=>some ([],[],[],[])
  |i::l=>match f i with
    |some (a,b,c,d)=>match Qh f l with
      |some (a',b',c',d')=>some (a++a',b++b',c++c',d++d')
      |none=>none
    |none=>none
noncomputable def Gg (P:Program) (n:Nat) (ops:Array Oper) (lz ts:List Nat) (H:List Hint) (V:List Conv) (T:List (Nat × Nat)):Nat→Bool→Array Bool→St→Option Ju
  |0,E,listed,x=>match Region.ready .any ops listed with
    |[]=>match Fu ts x.s with
      |some s=>some ([⟨s,x.h,x.nx⟩],[],[],[])
      |none=>none
    |_::_=>none
  |fuel+1,E,listed,x=>match Region.ready .any ops listed with
    |[]=>match Fu ts x.s with
      |some s=>some ([⟨s,x.h,x.nx⟩],[],[],[])
      |none=>none
    |a::l=>match Ik P E n ops lz V T listed x (a::l) with
      |some (i,m,y,C)=>match Gg P n ops lz ts H V T fuel E (listed.setIfInBounds i true) y with
        |some (fs,cs,ms,vs)=>some (fs,Ir i C cs,ms,(i,m)::vs)
        |none=>none
      |none=>Qh (fun i=>match ops[i]? with
        |some o=>match Gt P i T x with
          |some x0=>match F5 i V x0 with
            |some (x1,m)=>match K7 P n ops lz H i o x1 with
              |some (y,C,A)=>match Gg P n ops lz ts H V T fuel (E&&noT i T&&A.isNone) (listed.setIfInBounds i true) y with
                |some (fs,cs,ms,vs)=>some (fs,Ir i C cs,L8 i A ms,(i,m)::vs)
                |none=>none
              |none=>none
            |none=>none
          |none=>none
        |none=>none) (a::l)
section
variable {P : Program} {B : Bas} {w : World} {F F0 : Cx} {n : Nat} {φ : Phi} {σ : Nat → Value} {K : Exit → St → Prop} {KK : St → Prop} {x y : St} {E : Bool} {ops : Array Oper} {fuel : Nat} {listed : Array Bool} {H : List Hint} {V : List Conv} {T : List (Nat × Nat)} {CS : List (Nat × Prop)} {lz ts : List Nat} {i : Nat} {o : Oper} {C : Option Prop} {A : Option (List AV × Bool)}
theorem Vs {j:Nat}:∀{T:List (Nat × Nat)} {x y:St},Gt P j T x=some y→noT j T=true→y=x
  |[],x,y,h,_=>by cases h;rfl
  |t::r,x,y,h,k=>by
    unfold noT at k
    simp only[Bool.and_eq_true,Bool.not_eq_true'] at k
    unfold Gt at h
    rw[k.1,cond_false] at h
    exact Vs h k.2
theorem Ro {j:Nat}:∀{T:List (Nat × Nat)} {x y:St} {φ:Phi},Gt P j T x=some y→Holds B F n x φ σ w→∃φ',Holds B F n y φ' σ w
  |[],x,y,φ,h,hx=>by cases h;exact⟨φ,hx⟩
  |t::l,x,y,φ,h,hx=>by
    unfold Gt at h
    cases hb:Nat.beq t.1 j with
    |false=>rw[hb,cond_false] at h;exact Ro h hx
    |true =>
      rw[hb,cond_true] at h
      split at h
      · rename_i z hz
        obtain⟨φ',h'⟩:=hx.still hz
        exact Ro h h'
      · cases h
theorem Qj {j:Nat}:∀{V:List Conv} {x y:St} {m:List AV},VOk V→F5 j V x=some (y,m)→m=F6 j V→Holds B F n x φ σ w→Holds B F n y φ σ w
  |[],x,y,m,_,h,_,hx=>by cases h;exact hx
  |v::l,x,y,m,hV,h,hm,hx=>by
    unfold F5 at h
    unfold F6 at hm
    cases hb:Nat.beq v.i j with
    |false=>rw[hb,cond_false] at h hm;exact Qj hV.2 h hm hx
    |true =>
      rw[hb,cond_true] at h hm
      split at h
      · rename_i a ha
        split at h
        · rename_i z m' hz
          cases h
          simp only[List.cons.injEq] at hm
          exact Qj hV.2 hz hm.2 (hx.conv ha (by rw[hm.1];exact hV.1))
        · cases h
      · cases h
theorem Zx:∀{l:List Nat} {i:Nat} {m:List AV} {y:St} {C:Option Prop},Ik P E n ops lz V T listed x l=some (i,m,y,C)→i∈l∧Region.free .any ops listed i=true∧∃o x1,ops[i]? = some o∧F5 i V x=some (x1,m)∧K8 P E n ops lz o x1=some (y,C)
  |[],i,m,y,C,h=>by cases h
  |a::l,i,m,y,C,h=>by
    have more:Ik P E n ops lz V T listed x l=some (i,m,y,C)→i∈a::l∧Region.free .any ops listed i=true∧∃o x1,ops[i]? = some o∧F5 i V x=some (x1,m)∧K8 P E n ops lz o x1=some (y,C):=fun k=>by
      obtain⟨k1,k2⟩:=Zx k;exact⟨List.mem_cons_of_mem _ k1,k2⟩
    unfold Ik at h
    cases hb:Region.free .any ops listed a&&noT a T with
    |false=>rw[hb,cond_false] at h;exact more h
    |true =>
      rw[hb,cond_true] at h
      simp only[Bool.and_eq_true] at hb
      split at h
      · rename_i o ho
        cases hk:Q1l o.op with
        |true=>rw[hk,cond_true] at h;exact more h
        |false =>
          rw[hk,cond_false] at h
          split at h
          · rename_i x1 m1 hx1
            split at h
            · rename_i y1 C1 hy1
              simp only[Option.some.injEq,Prod.mk.injEq] at h
              obtain⟨rfl,rfl,rfl,rfl⟩:=h
              exact⟨List.mem_cons_self,hb.1,o,x1,ho,hx1,hy1⟩
            · exact more h
          · exact more h
      · exact more h
theorem Q03 {f : Nat → Option Ju} : ∀ {l : List Nat} {a : List St} {b : List (Nat × Prop)} {c : List (Nat × List AV × Bool)} {d : List (Nat × List AV)}, Qh f l = some (a, b, c, d) →
    ∀i∈l,∃a' b' c' d',f i=some (a',b',c',d')∧(∀y∈a',y∈a)∧(∀y∈b',y∈b)∧(∀y∈c',y∈c)∧∀y∈d',y∈d
  |[],a,b,c,d,h,i,hi=>by cases hi
  |j::l,a,b,c,d,h,i,hi=>by
    unfold Qh at h
    split at h
    · rename_i a1 b1 c1 d1 h1
      split at h
      · rename_i a2 b2 c2 d2 h2
        simp only[Option.some.injEq,Prod.mk.injEq] at h
        obtain⟨rfl,rfl,rfl,rfl⟩:=h
        rcases List.mem_cons.1 hi with rfl|hi
        · exact⟨a1,b1,c1,d1,h1,fun y hy=>List.mem_append_left _ hy,fun y hy=>List.mem_append_left _ hy,fun y hy=>List.mem_append_left _ hy,fun y hy=>List.mem_append_left _ hy⟩
        · obtain⟨a',b',c',d',k1,k2,k3,k4,k5⟩:=Q03 h2 i hi
          exact⟨a',b',c',d',k1,fun y hy=>List.mem_append_right _ (k2 y hy),fun y hy=>List.mem_append_right _ (k3 y hy),fun y hy=>List.mem_append_right _ (k4 y hy),fun y hy=>List.mem_append_right _ (k5 y hy)⟩
      · cases h
    · cases h
theorem X6q {l:List Nat} (hr:Region.ready .any ops listed=l) (hl:l≠[]) (h:∀i∈l,SN P n ops B F KK F0 E fuel listed i x):SG P n ops B F KK F0 E (fuel+1) listed x:=by
  unfold SG
  intro φ σ w hx hE
  exact Qu hr hl fun k hk=>h k hk φ σ w hx hE
theorem X6r {m:List AV} (hV:VOk V) (h:F5 i V x=some (y,m)) (hm:m=F6 i V) (k:SG P n ops B F KK F0 E fuel listed y):SG P n ops B F KK F0 E fuel listed x:=by
  unfold SG at k ⊢
  exact fun φ σ w hx hE=>k φ σ w (Qj hV h hm hx) hE
theorem X6k {m:List AV} {j:Nat} (hV:VOk V) (h:F5 j V x=some (y,m)) (hm:m=F6 j V) (k:SN P n ops B F KK F0 E fuel listed i y):SN P n ops B F KK F0 E fuel listed i x :=
  fun φ σ w hx hE=>k φ σ w (Qj hV h hm hx) hE
theorem X6i {j:Nat} (h:Gt P j T x=some y) (k:SN P n ops B F KK F0 (E&&noT j T) fuel listed i y):SN P n ops B F KK F0 E fuel listed i x:=by
  intro φ σ w hx hE
  cases hn:noT j T with
  |true =>
    have:=Vs h hn;subst this
    rw[hn,Bool.and_true] at k
    exact k φ σ w hx hE
  |false =>
    rw[hn,Bool.and_false] at k
    obtain⟨φ',h'⟩:=Ro h hx
    obtain⟨o,h1,h2⟩:=k φ' σ w h' (fun q=>by cases q)
    exact⟨o,h1,h2⟩
theorem Q67 (hs : Region.noSelect ops = true) (hH : HOk P H) (hV : VOk V) (hCS : COk CS) : ∀ {fuel : Nat} {E : Bool} {listed : Array Bool} {x : St} {fs : List St} {cs : List (Nat × Prop)} {ms : List (Nat × List AV × Bool)} {vs : List (Nat × List AV)},
    Gg P n ops lz ts H V T fuel E listed x=some (fs,cs,ms,vs)→Ky H V CS cs ms vs→(∀y∈fs,KK y)→SG P n ops B F KK F0 E fuel listed x:=by
  have fin : ∀ {fuel : Nat} {E : Bool} {listed : Array Bool} {x : St} {fs : List St} {cs : List (Nat × Prop)} {ms : List (Nat × List AV × Bool)} {vs : List (Nat × List AV)}, Region.ready .any ops listed = [] →
      (match Fu ts x.s with|some s=>some (([⟨s,x.h,x.nx⟩],[],[],[]):Ju)|none=>none)=some (fs,cs,ms,vs)→(∀y∈fs,KK y)→SG P n ops B F KK F0 E fuel listed x:=by
    intro fuel E listed x fs cs ms vs hr h hk
    split at h
    · rename_i s hsel
      simp only[Option.some.injEq,Prod.mk.injEq] at h
      obtain⟨rfl,_⟩:=h
      exact Uq ts hsel (Hd hr (hk _ (by simp)))
    · cases h
  intro fuel
  induction fuel with
  |zero =>
    intro E listed x fs cs ms vs h hf hk
    unfold Gg at h
    split at h
    · rename_i hr;exact fin hr h hk
    · cases h
  |succ fuel ih =>
    intro E listed x fs cs ms vs h hf hk
    unfold Gg at h
    split at h
    · rename_i hr;exact fin hr h hk
    · rename_i a l hr
      obtain⟨f1,f2,f3⟩:=hf
      split at h
      · rename_i i m y C hfi
        split at h
        · rename_i fs' cs' ms' vs' hrec
          simp only[Option.some.injEq,Prod.mk.injEq] at h
          obtain⟨rfl,rfl,rfl,rfl⟩:=h
          obtain⟨hi,hfree,o,x1,ho,hx1,hy⟩:=Zx hfi
          have hC:Bh C:=by
            cases C with
            |none=>trivial
            |some p =>
              have e:p=G3 CS i:=f1 (i,p) (by simp[Ir])
              show p
              rw[e];exact P8 i hCS
          have f':Ky H V CS cs' ms' vs':=by
            refine⟨fun c hc=>f1 c ?_,f2,fun v hv=>f3 v (by simp[hv])⟩
            cases C<;>simp[Ir,hc]
          exact X6r hV hx1 (f3 (i,m) (by simp)) (Q26 i lz ho hs hfree (by rw[hr];simpa using hi) hy hC (ih hrec f' hk))
        · cases h
      · refine X6q hr (by simp) fun i hi=>?_
        obtain⟨fs1,cs1,ms1,vs1,h1,g1,g2,g3,g4⟩:=Q03 h i hi
        split at h1
        · rename_i o ho
          split at h1
          · rename_i x0 hx0
            split at h1
            · rename_i x1 m hx1
              split at h1
              · rename_i y C A hy
                split at h1
                · rename_i fs' cs' ms' vs' hrec
                  simp only[Option.some.injEq,Prod.mk.injEq] at h1
                  obtain⟨rfl,rfl,rfl,rfl⟩:=h1
                  have hC:Bh C:=by
                    cases C with
                    |none=>trivial
                    |some p =>
                      have e:p=G3 CS i:=f1 (i,p) (g2 _ (by simp[Ir]))
                      show p
                      rw[e];exact P8 i hCS
                  have hA:∀a,A=some a→a=Gz H i:=by
                    rintro a rfl
                    exact f2 (i,a) (g3 _ (by simp[L8]))
                  have f':Ky H V CS cs' ms' vs':=by
                    refine⟨fun c hc=>f1 c (g2 _ ?_),fun a ha=>f2 a (g3 _ ?_),fun v hv=>f3 v (g4 _ (by simp[hv]))⟩
                    · cases C<;>simp[Ir,hc]
                    · cases A<;>simp[L8,ha]
                  exact X6i hx0 (X6k hV hx1 (f3 (i,m) (g4 _ (by simp))) (Q4s ho hy hC hH hA (ih hrec f' fun y hy=>hk y (g1 y hy))))
                · cases h1
              · cases h1
            · cases h1
          · cases h1
        · cases h1
noncomputable def stD (r:Option Ju):St:=match r with
  |some (y::_,_)=>y
  |_=>⟨[],[],0⟩
noncomputable def Rg (H:List Hint) (V:List Conv) (CS:List (Nat × Prop)) (r:Option Ju):Option Ju:=match r with
  |some (fs,cs,ms,vs)=>some (fs.map fun _=>stD r,cs.map fun c=>(c.1,G3 CS c.1),ms.map fun a=>(a.1,Gz H a.1),vs.map fun v=>(v.1,F6 v.1 V))
  |none=>some ([],[],[],[])
theorem Gr {id : Nat} {l : List Oper} (lz ts : List Nat) (T : List (Nat × Nat)) (hH : HOk P H) (hV : VOk V) (hCS : COk CS) (next : K .normal (stD (Gg P n l.toArray lz ts H V T l.length true (Array.replicate l.length false) x)))
    (hm:P.follows .mixedOrders=true:=by kernel_rfl) (hs:Region.noSelect l.toArray=true:=by kernel_rfl)
    (h:Gg P n l.toArray lz ts H V T l.length true (Array.replicate l.length false) x=Rg H V CS (Gg P n l.toArray lz ts H V T l.length true (Array.replicate l.length false) x):=by kernel_rfl):SW P n (.region id l.toArray true) B F K x:=by
  refine Iz hm fun F0 _=>?_
  cases hr:Gg P n l.toArray lz ts H V T l.length true (Array.replicate l.length false) x with
  |none=>rw[hr] at h;cases h
  |some q =>
    obtain⟨fs,cs,ms,vs⟩:=q
    rw[hr] at h next
    simp only[Rg,Option.some.injEq,Prod.mk.injEq] at h
    refine Q67 hs hH hV hCS hr ⟨Lp (f:=G3 CS) h.2.1,Lp (f:=Gz H) h.2.2.1,Lp (f:=fun j=>F6 j V) h.2.2.2⟩ fun y hy=>?_
    rw[h.1] at hy
    obtain⟨_,_,rfl⟩:=List.mem_map.1 hy
    exact next
theorem Cv {id : Nat} {l : List Oper} {d : Code} (lz ts : List Nat) (T : List (Nat × Nat)) (hH : HOk P H) (hV : VOk V) (hCS : COk CS) (next : SW P n d B F K (stD (Gg P n l.toArray lz ts H V T l.length true (Array.replicate l.length false) x)))
    (hm:P.follows .mixedOrders=true:=by kernel_rfl) (hs:Region.noSelect l.toArray=true:=by kernel_rfl)
    (h:Gg P n l.toArray lz ts H V T l.length true (Array.replicate l.length false) x=Rg H V CS (Gg P n l.toArray lz ts H V T l.length true (Array.replicate l.length false) x):=by kernel_rfl):SW P n (.seq (.region id l.toArray true) d) B F K x:=Ab (Gr lz ts T hH hV hCS next hm hs h)
noncomputable def gcD (ts:List Nat) (m:Nat) (x:St):St:=match gcS ts m x with
  |some y=>y
  |none=>⟨[],[],0⟩
noncomputable def gcB (ts:List Nat) (m:Nat) (x:St):Bool:=match gcS ts m x with
  |some _=>true
  |none=>false
theorem Ta {m:Nat} (h:gcB ts m x=true):gcS ts m x=some (gcD ts m x):=by
  unfold gcB at h
  unfold gcD
  split at h
  · rename_i y hy;rw[hy]
  · cases h
theorem B4 {c:Code} (I:Nat→St→Prop) (ts:List Nat) (m g:Nat) (hlo:F.lo≤m) (h0:I g (gcD ts m x)) (round:∀g y,I g y→SW P n c B F (I4 (fun z=>gcB ts m z=true∧∃g',g' < g∧I g' (gcD ts m z)) K) y) (k:gcB ts m x=true:=by kernel_rfl):SW P n (.loop c) B F K x :=
  X53 I ts m g hlo (Ta k) h0 fun g y hI=>Q2x (round g y hI) fun e z hz=>by
    cases e with
    |normal=>obtain⟨h1,g',h2,h3⟩:=hz;exact⟨_,Ta h1,g',h2,h3⟩
    |_=>exact hz
theorem Db {c d:Code} (I:St→Prop) (ts:List Nat) (m:Nat) (hlo:F.lo≤m) (h:SW P n c B F (I4 (fun z=>gcB ts m z=true∧I (gcD ts m z)) K) x) (r:∀y,I y→SW P n d B F K y):SW P n (.seq c d) B F K x :=
  X55 (fun z=>gcB ts m z=true∧I (gcD ts m z)) h fun z hz=>N7 ts m hlo (Ta hz.1) (r _ hz.2)
theorem RK {rs : List ResultVar} {r : AV} {e : Exit} (he : e = .ret ∨ e = .normal) (rl : List AV) (h3 : Same (Ai rl) r)
    (h:(match Gd P rs x with|some al=>(match frzVl P x.h al with|some q=>some q.1|none=>none)|none=>none)=some rl:=by kernel_rfl):La P rs r e x:=by
  split at h
  · rename_i al ha
    split at h
    · rename_i q hq
      obtain⟨rl',h'⟩:=q
      cases h
      exact Q55 he ha hq h3
    · cases h
  · cases h
end
theorem Pr {q:Bool} {c:Option Prop} (p:Option Prop) (h:c=p) (k:q=true→Bh p):q=true→Bh c:=by subst h;exact k
noncomputable def Wd:AV→Nat→AV
  |.row _ _ g=>g
  |_=>fun _=>Bl
theorem wR:Exit.ret = .ret∨Exit.ret = .normal:=.inl rfl
theorem wN:Exit.normal = .ret∨Exit.normal = .normal:=.inr rfl
end Sv
end
section
open Go Go.RowKit
namespace Sv
noncomputable def Jy (P:Program) (n:Nat) (ops:Array Oper) (lz:List Nat) (i:Nat) (x:St):Option (St × Option Prop):=match ops[i]? with
  |some o=>I3 P n ops lz o x
  |none=>none
noncomputable def stR (r:Option (St × Option Prop)):St:=match r with
  |some (y,_)=>y
  |none=>⟨[],[],0⟩
noncomputable def T1 (r:Option (St × Option Prop)):Option Prop:=match r with
  |some (_,C)=>C
  |none=>some False
noncomputable def stL (r:Option (St × Option Prop × Array Bool)):St:=match r with
  |some (y,_)=>y
  |none=>⟨[],[],0⟩
noncomputable def X3g (r:Option (St × Option Prop × Array Bool)):Option Prop:=match r with
  |some (_,C,_)=>C
  |none=>some False
noncomputable def lsL (r:Option (St × Option Prop × Array Bool)):Array Bool:=match r with
  |some (_,_,L)=>L
  |none => #[]
noncomputable def V5 (ts:List Nat) (s:Fr):Fr:=match Fu ts s with
  |some r=>r
  |none=>[]
noncomputable def V6 (ts:List Nat) (s:Fr):Bool:=match Fu ts s with
  |some _=>true
  |none=>false
noncomputable def lsD (n:Nat) (l:List Nat):Array Bool:=l.foldl (fun a i=>a.setIfInBounds i true) (Array.replicate n false)
section
variable {P : Program} {B : Bas} {w : World} {F F0 : Cx} {n : Nat} {KK : St → Prop} {x : St} {E : Bool} {ops : Array Oper} {fuel fuel' : Nat} {listed : Array Bool} {C : Option Prop}
theorem Vu {lz:List Nat} {i:Nat} (h:T1 (Jy P n ops lz i x)=C) (hC:Bh C):∃o,ops[i]? = some o∧I3 P n ops lz o x=some (stR (Jy P n ops lz i x),C):=by
  unfold Jy at h ⊢
  split at h
  · rename_i o ho
    refine⟨o,ho,?_⟩
    cases hs:I3 P n ops lz o x with
    |none=>rw[hs] at h;subst h;exact hC.elim
    |some q=>obtain⟨y,D⟩:=q;rw[hs] at h;subst h;rfl
  · subst h;exact hC.elim
theorem A2 (i:Nat) (lz:List Nat) (hC:Bh C) (next:SG P n ops B F KK F0 E fuel (listed.setIfInBounds i true) (stR (Jy P n ops lz i x))) (h:T1 (Jy P n ops lz i x)=C:=by kernel_rfl):SN P n ops B F KK F0 E fuel listed i x:=by
  obtain⟨o,h1,h2⟩:=Vu h hC
  exact Q24 i lz h1 h2 hC next
theorem Cq (i:Nat) (lz:List Nat) (hC:Bh C) (next:SG P n ops B F KK F0 E fuel (listed.setIfInBounds i true) (stR (Jy P n ops lz i x))) (hr:Region.ready .any ops listed=[i]:=by kernel_rfl) (h:T1 (Jy P n ops lz i x)=C:=by kernel_rfl):SG P n ops B F KK F0 E (fuel+1) listed x:=by
  obtain⟨o,h1,h2⟩:=Vu h hC
  exact X6n i lz hr h1 h2 hC next
theorem As (ts:List Nat) (next:SG P n ops B F KK F0 E fuel listed ⟨V5 ts x.s,x.h,x.nx⟩) (h:V6 ts x.s=true:=by kernel_rfl):SG P n ops B F KK F0 E fuel listed x:=by
  unfold V6 at h
  unfold V5 at next
  split at h
  · rename_i r hr
    rw[hr] at next
    exact Uq ts hr next
  · cases h
theorem Ck (lz is ts : List Nat) (hC : Bh C) (next : SG P n ops B F KK F0 E fuel (lsL (Lz P E n ops lz is ts listed x)) (stL (Lz P E n ops lz is ts listed x))) (hs : Region.noSelect ops = true := by kernel_rfl) (hf : fuel' = fuel + is.length := by kernel_rfl)
    (h:X3g (Lz P E n ops lz is ts listed x)=C:=by kernel_rfl):SG P n ops B F KK F0 E fuel' listed x:=by
  cases hq:Lz P E n ops lz is ts listed x with
  |none=>rw[hq] at h;subst h;exact hC.elim
  |some q =>
    obtain⟨y,D,L⟩:=q
    rw[hq] at h next
    subst h
    exact X6p is ts hs hq hf hC next
theorem A0 {E':Bool} {fuel':Nat} {listed':Array Bool} {x':St} (m:SG P n ops B F KK F0 E' fuel' listed' x') (hE:E'=E:=by kernel_rfl) (hf:fuel'=fuel:=by kernel_rfl) (hl:listed'=listed:=by kernel_rfl) (hx:x'=x:=by kernel_rfl):SG P n ops B F KK F0 E fuel listed x:=X6o m hE hf hl hx
end
end Sv
end
section
open Go Go.RowKit
namespace Sv
noncomputable def mis:List (AV × AV × Nat)→Option (List (Int × Int))
  |[]=>some []
  |(.int .i64 k,.int .i64 a,_)::r=>match mis r with
    |some l=>some ((k,a)::l)
    |none=>none
  |_=>none
theorem Sq {φ:Phi}:∀{es:List (AV × AV × Nat)} {l:List MapEntry} {m:List (Int × Int)},MR φ es l→mis es=some m→l.map (fun e=>(e.key,e.val))=C5 I64 I64 m
  |[],_,_,h,k=>by cases k;simp only[MR] at h;subst h;rfl
  |(a,v,c)::r,_,_,h,k=>by
    simp only[MR] at h
    obtain⟨e,l',rfl,h1,h2,_,h4⟩:=h
    unfold mis at k
    split at k
    · cases ‹_=[]›
    · rename_i q
      cases q
      split at k
      · rename_i hm
        cases k
        simp only[VR] at h1 h2
        simp only[List.map_cons,C5,Sq h4 hm,h1,h2]
      · cases k
    · cases k
theorem MR.snoc {φ:Phi} {a v:AV} {e:MapEntry} (h1:VR φ a e.key) (h2:VR φ v e.val):∀{es:List (AV × AV × Nat)} {l:List MapEntry},MR φ es l→MR φ (es++[(a,v,e.born)]) (l++[e])
  |[],_,h=>by simp only[MR] at h;subst h;simp only[List.nil_append,MR];exact⟨e,[],rfl,h1,h2,rfl,rfl⟩
  |(b,u,c)::r,_,h=>by
    simp only[MR] at h
    obtain⟨e',l',rfl,k1,k2,k3,k4⟩:=h
    simp only[List.cons_append,MR]
    exact⟨e',_,rfl,k1,k2,k3,MR.snoc h1 h2 k4⟩
section
variable {P : Program} {B : Bas} {w : World} {F : Cx} {n : Nat} {φ : Phi} {σ : Nat → Value} {K : Exit → St → Prop} {x : St} {ops : Array Oper}
theorem Q21 {rest : List Oper} {t kt et : TypeId} {X I Y : Operand} {ty : TypeId} {ps : String} {af : Array Edge} {g : Option (Nat × Bool)} {b c : Nat} {es : List (AV × AV × Nat)} {m : List (Int × Int)} {k a : Int}
    (hg:Cn ops x.s g=true) (hX:evA x.s X=some (.map b)) (hI:evA x.s I=some (.int .i64 k)) (hY:evA x.s Y=some (.int .i64 a)) (hb:A5 b x.h=some (.map es c)) (hm:mis es=some m) (hn:Bn m k=none)
    (ht:P.underlying t=some (.map kt et)) (hk:P.underlying kt=some (.int .i64)) (next:SO P n ops rest B F K ⟨x.s,B7 b (.map (es++[(.int .i64 k,.int .i64 a,c)]) (c+1)) x.h,x.nx⟩):SO P n ops (⟨none,.insert t X I Y,ty,ps,af,g⟩::rest) B F K x:=by
  intro φ σ w hx
  have v1:=hx.fr.ev _ _ hX
  have v2:=hx.fr.ev _ _ hI
  have v3:=hx.fr.ev _ _ hY
  simp only[VR] at v1 v2 v3
  obtain⟨x0,κ,e0,v1⟩:=v1
  obtain⟨x1,κ1,l,h1,h2,h3⟩:=hx.rel.obj b _ hb
  rw[e0] at h1;cases h1
  have he:=Sq h3 hm
  obtain⟨r,f1,f2,f3⟩:=O3 (Lq hk) k l.toList m he w
  rw[hn] at f2
  have hc:=(Lq hk).check false 9999 k w
  have hlt:x0 < w.heap.size:=C9 h2
  cases r with
  |some p=>simp at f2
  |none =>
    refine H0 (w':={ w with heap:=w.heap.setIfInBounds x0 (.map (l.push { key:=I64 k,val:=I64 a,born:=c }) (c+1)) }) (Cs hx.fr hg) ?_ (next φ _ _ ⟨hx.fr,?_,hx.dom,hx.old,hx.new,hx.base⟩)
    · have v2':ev n σ I=I64 k:=v2
      have v3':ev n σ Y=I64 a:=v3
      simp[execOp,v1,v2',v3',Instr.mapUpdate,run_underlying ht,getObj,setObj,Sem.run,h2,hc,f1,go_sem]
    · refine hx.rel.set hb rfl rfl e0 rfl rfl rfl (by simp) (fun j hj=>by simp[Array.getElem?_setIfInBounds,Ne.symm hj]) ⟨x0,κ,_,e0,(by simp[hlt];rfl),?_⟩
      rw[Array.toList_push]
      exact MR.snoc (e:={ key:=I64 k,val:=I64 a,born:=c }) (by simp only[VR]) (by simp only[VR]) h3
theorem X6a {rest : List Oper} {t kt et : TypeId} {X I : Operand} {dst : Option Tmp} {ty : TypeId} {ps : String} {af : Array Edge} {g : Option (Nat × Bool)} {b c : Nat} {es : List (AV × AV × Nat)} {m : List (Int × Int)} {k r : Int} {s' : Fr}
    (hg:Cn ops x.s g=true) (hX:evA x.s X=some (.map b)) (hI:evA x.s I=some (.int .i64 k)) (hb:A5 b x.h=some (.map es c)) (hm:mis es=some m)
    (ht:P.underlying t=some (.map kt et)) (hk:P.underlying kt=some (.int .i64)) (hz:∀w,(zeroValue et).run P w = .ok (.int .i64 0) w) (hr:(Bn m k).getD 0=r)
    (hp:Bw n dst (.int .i64 r) x.s=some s') (next:SO P n ops rest B F K ⟨s',Cg b x.h,x.nx⟩):SO P n ops (⟨dst,.lookup t X I false,ty,ps,af,g⟩::rest) B F K x:=by
  intro φ σ w hx
  have v1:=hx.fr.ev _ _ hX
  have v2:=hx.fr.ev _ _ hI
  simp only[VR] at v1 v2
  obtain⟨x0,κ,e0,v1⟩:=v1
  obtain⟨x1,κ1,l,h1,h2,h3⟩:=hx.rel.obj b _ hb
  rw[e0] at h1;cases h1
  have he:=Sq h3 hm
  refine Bz (Cs hx.fr hg) (Q7 (enc:=I64) (val:=I64) (k:=k) (m:=m) v1 v2 ⟨_,_,h2,he⟩ (Lq hk) ht hz) (next φ _ w ⟨hx.fr.put hp ?_,hx.rel.del b,hx.dom,hx.old,hx.new,hx.base⟩)
  rw[←hr]
  cases Bn m k<;>simp[VR,I64]
end
end Sv
end
section
open Go Go.RowKit
namespace Sv
section
variable {P : Program} {n : Nat} {φ : Phi} {σ : Nat → Value}
end
end Sv
end
section
open Go Go.RowKit
namespace Sv
section
variable {P : Program} {B : Bas} {w : World} {F F0 : Cx} {n : Nat} {φ : Phi} {σ : Nat → Value} {K : Exit → St → Prop} {x y : St} {ops : Array Oper}
end
end Sv
end
section
open Go Go.RowKit
namespace Sv
def Ob (φ:Phi) (h:AH) (nx:Nat) (w:World) (φ':Phi) (h':AH) (w':World):Prop:=Rel (Ew φ h w) φ' h' w'∧(∀b x,b < nx→φ b=some x→φ' b=some x)∧(∀b o,φ.f b=some o→φ'.f b=some o)∧∀b o,φ'.f b=some o→φ.f b=some o∨¬(Ew φ h w).old b
def CallZ {α:Type} (P:Program) (ch:List PanicEntry) (f:Nat) (al:List AV) (h:AH) (nx:Nat) (o:Option α) (r:α→AV) (m:α→AH):Prop:=∀(B0:Bas) (φ:Phi) (w:World) (vs:List Value),Rel B0 φ h w→VRl φ al vs →
  Calls P f vs.toArray w (Pan ch (fun v w'=>∃a,o=some a∧∃φ',Ob φ h nx w φ' (m a) w'∧VR φ' (r a) v) (fun w'=>o=none∧∃φ',Ob φ h nx w φ' [] w'))
def Uy (P:Program) (ch:List PanicEntry) (f:Nat) (al:List AV) (h:AH) (nx:Nat):Prop:=∀(B0:Bas) (φ:Phi) (w:World) (vs:List Value),Rel B0 φ h w→VRl φ al vs →
  Calls P f vs.toArray w (Pan ch (fun _ _=>False) (fun w'=>∃φ',Ob φ h nx w φ' [] w'))
theorem Pj {α:Type} (o:Option α) {G:Prop} (h0:o=none→G) (h1:∀a,o=some a→G):G:=match o,h0,h1 with
  |none,h0,_=>h0 rfl
  |some a,_,h1=>h1 a rfl
section
variable {α : Type} {P : Program} {ch : List PanicEntry} {f : Nat} {al : List AV} {h : AH} {nx : Nat} {o : Option α} {r : α → AV} {m : α → AH}
theorem CallZ.yes {a:α} (c:CallZ P ch f al h nx o r m) (e:o=some a):Fc P f al h nx (r a) (m a):=fun B0 φ w vs h1 h2=>(c B0 φ w vs h1 h2).mono (by
  rintro e' w' (⟨v,rfl,a',q,φ',⟨b1,b2,b3,b4⟩,b5⟩|⟨_,q,_⟩)
  · rw[e] at q;cases q;exact⟨v,rfl,φ',b1,b5,b2,b3,b4⟩
  · rw[e] at q;cases q)
theorem CallZ.no (c:CallZ P ch f al h nx o r m) (e:o=none):Uy P ch f al h nx:=fun B0 φ w vs h1 h2=>(c B0 φ w vs h1 h2).mono (by
  rintro e' w' (⟨v,rfl,a',q,_⟩|⟨rfl,_,q⟩)
  · rw[e] at q;cases q
  · exact Pan.pan q)
def Wf (P:Program) (rs:List ResultVar) (ch:List PanicEntry) (o:Option α) (r:α→AV) (m:α→AH) (nx:Nat):Exit→St→Prop
  |.panic c,_=>c=ch∧o=none
  |e,x=>∃a,o=some a∧O6 P rs (r a) (m a) nx e x
theorem O5 {rs:List ResultVar} {x:St} {al:List AV} {e:Exit} (a:α) (ho:o=some a) (he:e = .ret∨e = .normal) (h1:Gd P rs x=some al) (h2:Ai al=r a) (h3:Cj nx x.h=some (m a)):Wf P rs ch o r m nx e x:=by
  rcases he with rfl|rfl
  · exact⟨a,ho,D0 (.inl rfl) h1 h2 h3⟩
  · exact⟨a,ho,D0 (.inr rfl) h1 h2 h3⟩
theorem Rel.lost {B:Bas} {φ ψ:Phi} {h:AH} {w:World} (k:Rel B φ h w) (e:ψ.f=φ.f):Rel B ψ [] w:=⟨k.below,by rw[e];exact k.fro,fun b o q=>(by cases q),fun b b' o o' k q=>(by cases q),fun b o k q=>(by cases q)⟩
theorem X7r {fn : Func} {c : Code} {n : Nat} (rs : List ResultVar) (hf : P.funcs[f]? = some fn) (hb : fn.body = some c) (hn : fn.ntmps = n) (hr : fn.results = rs.toArray) (ha : Nat.ble al.length n = true)
    (hH:Cj nx h=some h) (hal:lowl nx al=true) (hrl:∀a,low nx (r a)=true) (k:∀(B:Bas) (F:Cx),F.lo=nx→SW P n c B F (Wf P rs ch o r m nx) ⟨Ex 0 al,h,nx⟩):CallZ P ch f al h nx o r m:=by
  intro B0 φ w vs hrel hv
  have hlen:=hv.length
  have hal':al.length≤n:=Nat.le_of_ble_eq_true ha
  have hcut:=hrel.cut hH
  have himg:∀b o,A5 b h=some o→img (φ.cut nx) b o=img φ b o:=by
    intro b o e
    have:=(Ip hH b o e).1
    funext k
    cases o<;>simp only[img]<;>first|rw[show(φ.cut nx) b=φ b from if_pos this,show(φ.cut nx).s b=φ.s b from if_pos this]|rw[show(φ.cut nx) b=φ b from if_pos this]|rw[show(φ.cut nx).s b=φ.s b from if_pos this]
  have hcm:∀b x,(if b < nx then φ b else none)=some x→b < nx:=by
    intro b x e
    by_cases hb:b < nx
    · exact hb
    · rw[if_neg hb] at e;cases e
  have hx:Holds (Ew φ h w) ⟨φ.f,fun b=>if b < nx then φ b else none,nx,hcm⟩ n ⟨Ex 0 al,h,nx⟩ (φ.cut nx) (Dv vs) w:=by
    refine⟨fun t a e=>?_,⟨⟨rfl,rfl,rfl,Nat.le_refl _,fun _ _=>rfl⟩,hcut.fro,hcut.obj,hcut.sep,fun b o k e i=>?_⟩,fun b hb=>⟨if_neg (by simpa using hb),if_neg (by simpa using hb)⟩,fun b o e=>e,fun b o e => .inl e,fun b x e=>e⟩
    · obtain⟨h1,h2,h3⟩:=Jb (hv.cut hal) e
      rw[Nat.sub_zero] at h2 h3
      have ht:Nat.blt t n=true:=by simp only[Nat.blt_eq];omega
      simp only[sl,ht,cond_true,Dv];exact h2
    · have:=hcut.gf b o k e i
      exact⟨fun q=>q.2 b o e (by rw[←himg b o e];exact i),this.2⟩
  refine Dn hf hb hn ?_ (by rw[hlen];exact ha)
  refine W_mono (k _ _ rfl _ _ _ hx) ?_
  rintro e σ' w' ⟨y,φ1,hy,he⟩
  have hb2:∀b x,b < nx→φ b=some x→(φ1.cut nx) b=some x:=fun b x hb q=>(if_pos hb).trans (hy.base b x ((if_pos hb).trans q))
  have fin:∀a,o=some a→O6 P rs (r a) (m a) nx e y→Gm P n fn (Pan ch (fun v w'=>∃a,o=some a∧∃φ',Ob φ h nx w φ' (m a) w'∧VR φ' (r a) v) (fun w'=>o=none∧∃φ',Ob φ h nx w φ' [] w')) .ret σ' w':=by
    rintro a ho ⟨_,al',k1,k2,k3⟩
    obtain⟨vs',hvs,hrun⟩:=I5 (P:=P) hy.fr hy.rel k1
    have hp:=Li hvs
    rw[k2] at hp
    exact⟨_,J3 hr hrun,.inl ⟨_,rfl,a,ho,φ1.cut nx,⟨hy.rel.cut k3,hb2,hy.old,hy.new⟩,hp.cut (hrl a)⟩⟩
  cases e with
  |normal=>obtain⟨a,ho,hs⟩:=he;exact fin a ho hs
  |ret=>obtain⟨a,ho,hs⟩:=he;exact fin a ho hs
  |panic c =>
    obtain⟨rfl,ho⟩:=he
    exact .inr ⟨rfl,ho,φ1.cut nx,hy.rel.lost rfl,hb2,hy.old,hy.new⟩
  |_=>obtain⟨a,ho,hs,_⟩:=he;rcases hs with hs|hs<;>cases hs
end
section
variable {P : Program} {B : Bas} {w : World} {F : Cx} {n : Nat} {φ : Phi} {σ : Nat → Value} {K : Exit → St → Prop} {x y : St} {ops : Array Oper} {ch : List PanicEntry}
theorem Holds.none {σ':Nat→Value} (h:Holds B F n x φ σ w):Holds B F n ⟨[],x.h,x.nx⟩ φ σ' w:=⟨fun t a e=>(by cases e),h.rel,h.dom,h.old,h.new,h.base⟩
theorem X56 {l:List Oper} (e sz t:Nat) (hsz:Nat.blt 0 sz=true) (k:Om e sz t x=some y) (h:SO P n ops l B F K y):SO P n ops l B F K x:=fun φ σ w hx=>by
  obtain⟨φ',hh⟩:=hx.thaw hsz k
  exact h _ _ _ hh
theorem Ga {rest : List Oper} {f : FuncId} {ar : Array Operand} {ts : Array TypeId} {ty : TypeId} {ps : String} {dst : Option Tmp} {af : Array Edge} {g : Option (Nat × Bool)} {al' : List AV} {H : AH} (ks : List Nat)
    (he:Aj P f) (hf:Uy P ch f al' H ks.length) (k:∀h2,Gi ks [] x.h=some h2→K (.panic ch) ⟨H3 ks x.s,h2,x.nx⟩) (hg:Cn ops x.s g=true:=by kernel_rfl) (ha:(match Df (evA x.s) ar.toList with|some al=>renL ks al|none=>none)=some al':=by kernel_rfl)
    (hn:E6 ks=true:=by kernel_rfl) (hb:Ko x.nx ks=true:=by kernel_rfl) (hs:H4 ks x.h 0 ks=some H:=by kernel_rfl) (hk:(Gi ks [] x.h).isSome=true:=by kernel_rfl):SO P n ops (⟨dst,.call { callee:=.value (.func f),args:=ar,argTypes:=ts },ty,ps,af,g⟩::rest) B F K x:=by
  intro φ σ w hx
  obtain⟨h2,hk⟩:=Option.isSome_iff_exists.1 hk
  split at ha
  · rename_i al hal
    have hv:=(Ek hx.fr.ev hal).pull ha
    refine Q2t (Cs hx.fr hg) he (hf B (φ.pull ks) w _ (hx.rel.pull hn hs) hv) ?_ (fun v w' q=>q.elim)
    rintro w' ⟨φ',q1,q3,q4,q5⟩
    exact⟨_,_,hx.callS (r:=Bl) (r':=Bl) (v:=undef) (dst:=Option.none) hn hb hs hk q1 Px q3 q4 q5 rfl rfl,k _ hk⟩
  · cases ha
def SZ (P:Program) (n:Nat) (ops:Array Oper) (B:Bas) (F:Cx) (K:Exit→St→Prop) (fuel:Nat) (listed:Array Bool) (x:St):Prop :=
  ∀φ σ w,Holds B F n x φ σ w→WZ P n ops (D4 B F n K .normal) (fun c w=>∀σ,D4 B F n K (.panic c) σ w) fuel listed σ w
theorem Q2z {id:Nat} {l:List Oper} (hm:P.follows .mixedOrders=true) (h:SZ P n l.toArray B F K l.length (Array.replicate l.length false) x):SW P n (.region id l.toArray true) B F K x:=fun φ σ w hx=>X46 hm fun w' hd=>by
  obtain⟨m,rfl⟩:=hd
  exact h φ σ _ ⟨hx.fr,hx.rel.drew,hx.dom,hx.old,hx.new,hx.base⟩
variable {fuel : Nat} {listed : Array Bool}
noncomputable def Rs (P:Program) (n:Nat) (ops:Array Oper) (i:Nat) (x:St):Option St:=match ops[i]? with
  |some o=>match o.guard with
    |none=>match Mr P (evA x.s) o with
      |some (a,none)=>match Bw n o.dst a x.s with
        |some s'=>some ⟨s',x.h,x.nx⟩
        |none=>none
      |_=>none
    |some _=>none
  |none=>none
noncomputable def stG (r:Option St):St:=match r with
  |some y=>y
  |none=>⟨[],[],0⟩
theorem Qw (i : Nat) (next : SZ P n ops B F K fuel (listed.setIfInBounds i true) (stG (Rs P n ops i x))) (h : (Rs P n ops i x).isSome = true := by kernel_rfl) (hs : Region.noSelect ops = true := by kernel_rfl) (hf : Region.free .any ops listed i = true := by kernel_rfl)
    (hr:(Region.ready .any ops listed).contains i=true:=by kernel_rfl):SZ P n ops B F K (fuel+1) listed x:=by
  intro φ σ w hx
  obtain⟨y,hy⟩:=Option.isSome_iff_exists.1 h
  rw[hy] at next
  unfold Rs at hy
  split at hy
  · rename_i o ho
    split at hy
    · rename_i hg
      split at hy
      · rename_i a ha
        split at hy
        · rename_i s' hp
          cases hy
          obtain⟨v,h1,h2⟩:=Sc hx.fr.ev ha trivial
          exact X5d i ho hs hf hr (by rw[hg];rfl) h1 (next φ _ w ⟨hx.fr.put hp h2,hx.rel,hx.dom,hx.old,hx.new,hx.base⟩)
        · cases hy
      · cases hy
    · cases hy
  · cases hy
def Lr (P:Program) (n:Nat) (ops:Array Oper) (B:Bas) (F:Cx) (K:Exit→St→Prop) (fuel:Nat) (listed:Array Bool):Exit→St→Prop
  |.normal,y=>SZ P n ops B F K fuel listed y
  |.panic c,y=>K (.panic c) ⟨[],y.h,y.nx⟩
  |_,_=>False
theorem Sz {i:Nat} {o:Oper} (h:SO P n ops [o] B F (Lr P n ops B F K fuel (listed.setIfInBounds i true)) x) (hx:Holds B F n x φ σ w):WO P n ops [o] (Ho P n ops (D4 B F n K .normal) (fun c w=>∀σ,D4 B F n K (.panic c) σ w) fuel listed i) σ w:=by
  have h:=h φ σ w hx
  have ho:¬LetsOut (lift n (D4 B F n (Lr P n ops B F K fuel (listed.setIfInBounds i true)))):=by
    rintro⟨a,w,σ',_,y,φ',_,h⟩;exact h
  have hk:∀a w',wpList P ops (lift n (D4 B F n (Lr P n ops B F K fuel (listed.setIfInBounds i true)))) [] a w'→wpList P ops (lift n (Ho P n ops (D4 B F n K .normal) (fun c w=>∀σ,D4 B F n K (.panic c) σ w) fuel listed i)) [] a w':=by
    rintro a w' ⟨σ',rfl,y,φ',hy,hs⟩
    exact⟨σ',rfl,Q7j (hs φ' σ' w' hy)⟩
  unfold WO wpList at h ⊢
  split at h
  · rename_i hw
    rw[if_pos hw]
    rcases h with h|⟨_,h⟩
    · refine .inl (U8 hk (fun c a w hc=>?_) ho h)
      obtain⟨σ',rfl,y,φ',hy,hs⟩:=hc
      exact⟨σ',rfl,Q7i fun σ2=>⟨_,φ',hy.none,hs⟩⟩
    · exact absurd h ho
  · rename_i hw
    rw[if_neg hw];exact hk _ _ h
theorem Q2w (i:Nat) {o:Oper} (hr:Region.ready .any ops listed=[i]) (hi:ops[i]? = some o) (h:SO P n ops [o] B F (Lr P n ops B F K fuel (listed.setIfInBounds i true)) x):SZ P n ops B F K (fuel+1) listed x :=
  fun φ σ w hx=>X5e i hr hi (Sz h hx)
theorem Q2v (i j:Nat) {oi oj:Oper} (hr:Region.ready .any ops listed=[i,j]) (hi:ops[i]? = some oi) (hj:ops[j]? = some oj) (h1:SO P n ops [oi] B F (Lr P n ops B F K fuel (listed.setIfInBounds i true)) x) (h2:SO P n ops [oj] B F (Lr P n ops B F K fuel (listed.setIfInBounds j true)) x):SZ P n ops B F K (fuel+1) listed x :=
  fun φ σ w hx=>X5c i j hr hi hj (Sz h1 hx) (Sz h2 hx)
end
def Gp (ds:List Deferred) (a:Act):Act:={ a with defers:=a.defers++ds }
theorem Q2j (ds:List Deferred) (a:Act):(Gp ds a).eval=a.eval:=by funext x;cases x<;>rfl
theorem Ma (ds:List Deferred) (a:Act) (d:Option Tmp) (v:Value):(Gp ds a).put d v=Gp ds (a.put d v):=by cases d<;>rfl
section
variable {P : Program} {ds : List Deferred}
theorem Q33 {o:Oper} {a:Act} {k k':Act→World→Prop} {Q Q':Exit→Act→World→Prop} (hQ:∀e a w,Q e a w→Q' e (Gp ds a) w) (hk:∀a w,k a w→k' (Gp ds a) w) (r:Result Go.Next) (h:o.upon P a k Q r):o.upon P (Gp ds a) k' Q' r:=by
  unfold Oper.upon at h ⊢
  split at h
  · simp only[Ma];exact hk _ _ h
  · simp only[Ma];exact hk _ _ h
  · rename_i d w'
    have e:({ Gp ds a with defers:=d::(Gp ds a).defers }:Act)=Gp ds { a with defers:=d::a.defers }:=rfl
    simp only[e,Ma];exact hk _ _ h
  · refine h.mono ?_
    intro e w h
    cases e with
    |returned v=>simp only[Ma];exact hk _ _ h
    |panicked c=>exact hQ _ _ _ h
    |outgrown=>obtain⟨a,w,q⟩:=h;exact⟨_,_,hQ _ _ _ q⟩
  · refine h.mono ?_
    intro v w h
    simp only[Ma];exact hk _ _ h
  · exact hQ _ _ _ h
  · exact h.elim
theorem Yl {ops:Array Oper} {Q Q':Exit→Act→World→Prop} (hQ:∀e a w,Q e a w→Q' e (Gp ds a) w):∀(l:List Oper) (a:Act) (w:World),wpList P ops Q l a w→wpList P ops Q' l (Gp ds a) w
  |[],a,w,h=>hQ _ _ _ h
  |o::l,a,w,h=>by
    have ih:=Yl (ops:=ops) hQ l
    unfold wpList at h ⊢
    have e1:(Gp ds a).tmps=a.tmps:=rfl
    rw[e1]
    split at h
    · rename_i hw
      rw[if_pos hw]
      rcases h with h|⟨h1,a',w',h2⟩
      · left;unfold Oper.wp at h ⊢;rw[Q2j];exact Q33 hQ ih _ h
      · right;refine⟨?_,_,_,hQ _ _ _ h2⟩;unfold Oper.asks at h1 ⊢;rw[Q2j];exact h1
    · rename_i hw
      rw[if_neg hw,Ma];exact ih _ _ h
variable {B : Bas} {F : Cx} {n : Nat} {K : Exit → St → Prop} {x : St}
def SWD (P:Program) (ds:List Deferred) (n:Nat) (c:Code) (B:Bas) (F:Cx) (K:Exit→St→Prop) (x:St):Prop:=∀φ σ w,Holds B F n x φ σ w→D.W P ds n c (D4 B F n K) σ w
theorem X54 {c:Code} {φ:Phi} {σ:Nat→Value} {w:World} (h:SW P n c B F K x) (hx:Holds B F n x φ σ w):W P n c (D4 B F n K) σ w:=h φ σ w hx
theorem X7k {c:Code} {φ:Phi} {σ:Nat→Value} {w:World} (hx:Holds B F n x φ σ w) (h:SWD P ds n c B F K x):D.W P ds n c (D4 B F n K) σ w:=h φ σ w hx
theorem Jv {id:Nat} {l:List Oper} (h:SO P n l.toArray l B F K x):SWD P ds n (.region id l.toArray false) B F K x:=fun φ σ w hx =>
  D.W_reg (by
    have k:=h φ σ w hx
    unfold WO at k
    exact Yl (ds:=ds) (Q:=lift n (D4 B F n K)) (Q':=D.lift ds n (D4 B F n K)) (by rintro e _ w ⟨σ,rfl,q⟩;exact⟨σ,rfl,q⟩) l _ _ k)
theorem I0 {c d:Code} (h:SWD P ds n c B F (I4 (SWD P ds n d B F K) K) x):SWD P ds n (.seq c d) B F K x:=by
  intro φ σ w hx
  refine D.W_seq (D.W_mono (h φ σ w hx) ?_)
  rintro e σ' w' ⟨y,φ',h1,h2⟩
  cases e<;>first|exact h2 φ' σ' w' h1|exact⟨y,φ',h1,h2⟩
theorem X7i (h:K .normal x):SWD P ds n .skip B F K x:=fun φ σ w hx=>D.W_skip ⟨x,φ,hx,h⟩
theorem Q3g (h:K .ret x):SWD P ds n .ret B F K x:=fun φ σ w hx=>D.W_ret ⟨x,φ,hx,h⟩
theorem X7l {o:Operand} {c d:Code} {q:Bool} (hq:evA x.s o=some (.bool q)) (ht:q=true→SWD P ds n c B F K x) (hf:q=false→SWD P ds n d B F K x):SWD P ds n (.cond o c d) B F K x:=by
  intro φ σ w hx
  have:=hx.fr.ev _ _ hq
  simp only[VR] at this
  exact D.W_cond this (fun h=>ht h φ σ w hx) (fun h=>hf h φ σ w hx)
theorem X7j {o:Operand} {c d:Code} {p:Prop} [Decidable p] (hq:evA x.s o=some (.bool (!decide p))) (ht:¬p→SWD P ds n c B F K x) (hf:p→SWD P ds n d B F K x):SWD P ds n (.cond o c d) B F K x :=
  X7l hq (fun h=>ht (by simpa using h)) (fun h=>hf (by simpa using h))
end
theorem X28 {P : Program} {n : Nat} {σ : Nat → Value} {w : World} {p q : Value} {dst : Option Tmp} {g a b : Nat} {ty : TypeId} {ps : String} {af : Array Edge} (h1 : sl n σ a = p) (h2 : sl n σ b = q) :
    (execOp (ev n σ) ⟨dst,.makeFunc (.func g) #[] #[.tmp a,.tmp b],ty,ps,af,none⟩).run P w = .ok (.value (.func (.func g) #[] #[p,q])) w:=by
  simp[execOp,ev,h1,h2,go_sem]
theorem X29 {P : Program} {n : Nat} {σ : Nat → Value} {w : World} {p q : Value} {g d : Nat} {ty : TypeId} {ps : String} {af : Array Edge} {ts : Array TypeId} (hd : d < n) :
    (execOp (ev n (Bj σ (some d) (.func (.func g) #[] #[p,q]))) ⟨none,.defer { callee:=.value (.tmp d),args := #[],argTypes:=ts },ty,ps,af,none⟩).run P w = .ok (.defer { target:=.fn (.func g) #[p,q],args := #[] }) w:=by
  simp[execOp,resolve,ev,Bj,Vz hd,Deferred.ofValue,go_sem]
end Sv
end
section
open Go Go.RowKit
def DepT.name:DepT→List UInt8 | .mk _ nm _ _ _=>nm
def DepT.op:DepT→Int | .mk _ _ op _ _=>op
def DepT.evr:DepT→List UInt8 | .mk _ _ _ ev _=>ev
def DepT.args:DepT→List DepT | .mk _ _ _ _ a=>a
namespace Sv
mutual
noncomputable def Tv:DepT→AV
  |.mk k nm op ev args => .agg [.int .i64 k,.str nm,.int .i64 op,.str ev,.row 5 args.length (depAt args)]
noncomputable def depAt:List DepT→Nat→AV
  |[],_=>Bl
  |d::_,0=>Tv d
  |_::r,i+1=>depAt r i
end
noncomputable def Am (d:DepT):AV:=.agg [.int .i64 d.kind,.str d.name,.int .i64 d.op,.str d.evr,.row 5 d.args.length (depAt d.args)]
theorem X23 (d:DepT):Tv d=Am d:=by cases d;unfold Tv;rfl
theorem Tw:∀{l:List DepT} {i:Nat},i < l.length→depAt l i=Am (nth l i)
  |[],_,h=>by simp at h
  |d::r,0,_=>by unfold depAt;exact X23 d
  |d::r,i+1,h=>by
    unfold depAt
    exact Tw (l:=r) (by simpa using h)
noncomputable abbrev C0 (l:List DepT):AV:=Af 5 Am l
theorem Io (l:List DepT):Imp (.row 5 l.length (depAt l)) (C0 l):=Imp.row fun i hi=>Imp.of_eq (Tw hi)
theorem Jj (l:List DepT):Imp (C0 l) (.row 5 l.length (depAt l)):=Imp.row fun i hi=>Imp.of_eq (Tw hi).symm
theorem VRl.of_imp {a b:AV} {l:List AV} (h:Imp a b):∀{p:List AV} {φ:Phi} {vs:List Value},VRl φ (p++a::l) vs→VRl φ (p++b::l) vs
  |[],φ,vs,k=>by
    obtain⟨v,vs',rfl,h1,h2⟩:=VRl.cons_inv (a:=a) (l:=l) k
    exact VRl.cons (h φ v h1) h2
  |x::p,φ,vs,k=>by
    obtain⟨v,vs',rfl,h1,h2⟩:=VRl.cons_inv (a:=x) (l:=p++a::l) k
    exact VRl.cons h1 (VRl.of_imp h h2)
theorem Imp.agg {a b:AV} {p l:List AV} (h:Imp a b):Imp (.agg (p++a::l)) (.agg (p++b::l)):=by
  intro φ v k
  simp only[VR] at k ⊢
  obtain⟨vs,h1,h2⟩:=k;exact⟨vs,VRl.of_imp h h1,h2⟩
theorem X22 (d:DepT):Imp (Am d) (.agg [.int .i64 d.kind,.str d.name,.int .i64 d.op,.str d.evr,C0 d.args]):=Imp.agg (p:=[.int .i64 d.kind,.str d.name,.int .i64 d.op,.str d.evr]) (Io d.args)
theorem X21 (d:DepT):Imp (.agg [.int .i64 d.kind,.str d.name,.int .i64 d.op,.str d.evr,C0 d.args]) (Am d):=Imp.agg (p:=[.int .i64 d.kind,.str d.name,.int .i64 d.op,.str d.evr]) (Jj d.args)
theorem Jz {d:DepT} {i:Nat} (h:i < d.args.length):(nth d.args i).size < d.size:=by
  cases d with
  |mk k nm op ev args =>
    have:=It (l:=args) (i:=i) h
    show(nth args i).size < (DepT.mk k nm op ev args).size
    simp only[DepT.size];omega
theorem Ns {C:DepT→Prop} (h:∀d,(∀i,i < d.args.length→C (nth d.args i))→C d) (d:DepT):C d:=by
  have key:∀n d,d.size≤n→C d:=by
    intro n
    induction n with
    |zero=>intro d hd;cases d;unfold DepT.size at hd;omega
    |succ n ih=>intro d hd;exact h d fun i hi=>ih _ (by have:=Jz hi;omega)
  exact key d.size d (Nat.le_refl _)
theorem Q51 {F:Nat→Option Obj} {w:World} {sz n:Nat} {u:Nat→Value} {v:Value} (hF:Fro F w) (h:RowAt F sz n u v) (hs:∀i,i < n→(u i).cells.size=sz):RowIs w v n sz ((List.range n).map fun i=>(u i).cells.toList).flatten:=by
  have hf:=Sa (f:=fun i=>(u i).cells.toList) n (fun i hi=>by rw[Array.length_toList];exact hs i hi)
  rw[List.flatMap_def] at hf
  refine⟨hf.1,?_⟩
  rcases h with⟨rfl,rfl|⟨a,c,rfl⟩⟩|⟨b,o,c,rfl,_,hl⟩
  · exact .inl ⟨rfl,_,_,rfl⟩
  · exact .inl ⟨rfl,_,_,rfl⟩
  · refine .inr ⟨b,o,c,rfl,fun j x hj=>?_⟩
    obtain⟨i,k,hi,rfl,hk⟩:=hf.2 j x hj
    rw[←Nat.add_assoc]
    exact Ih hF (hl i hi).2 hk
theorem Q50 {F:Nat→Option Obj} {sz n:Nat} {u:Nat→Value} {v:Value} (h:RowAt F sz n u v):∀i,i < n→(u i).cells.size=sz:=by
  rcases h with⟨rfl,_⟩|⟨b,o,c,rfl,_,hl⟩
  · intro i hi;omega
  · exact fun i hi=>(hl i hi).1
theorem Q10 {w:World}:∀{l:List DepT} {f:Nat→List Value},(∀i,i < l.length→DepC w (nth l i) (f i))→ArgsC w l ((List.range l.length).map f)
  |[],f,_=>by unfold ArgsC;rfl
  |d::r,f,h=>by
    unfold ArgsC
    refine⟨f 0,(List.range r.length).map fun i=>f (i+1),?_,h 0 (by simp),Q10 fun i hi=>h (i+1) (by simpa using hi)⟩
    rw[List.length_cons,List.range_succ_eq_map,List.map_cons,List.map_map];rfl
theorem X26 {F:Nat→Option Obj} {w:World} (hF:Fro F w) (d:DepT):∀v,VR (ofF F) (Am d) v→∃cs,v = .agg cs.toArray∧DepC w d cs:=by
  refine Ns (C:=fun d=>∀v,VR (ofF F) (Am d) v→∃cs,v = .agg cs.toArray∧DepC w d cs) (fun d ih=>?_) d
  intro v hv
  have hv:=X22 d _ _ hv
  simp only[VR] at hv
  obtain⟨vs,h1,rfl⟩:=hv
  obtain⟨v0,r0,rfl,e0,h1⟩:=h1.cons_inv
  obtain⟨v1,r1,rfl,e1,h1⟩:=h1.cons_inv
  obtain⟨v2,r2,rfl,e2,h1⟩:=h1.cons_inv
  obtain⟨v3,r3,rfl,e3,h1⟩:=h1.cons_inv
  obtain⟨v4,r4,rfl,e4,h1⟩:=h1.cons_inv
  rw[h1.nil_inv]
  simp only[VR] at e0 e1 e2 e3
  subst e0 e1 e2 e3
  simp only[C0,Af,VR] at e4
  obtain⟨u,hu,hr⟩:=e4
  have hsz:=Q50 hr
  refine⟨_,rfl,?_⟩
  have hd:d = .mk d.kind d.name d.op d.evr d.args:=by cases d;rfl
  rw[hd];unfold DepC
  refine⟨v4,(List.range d.args.length).map fun i=>(u i).cells.toList,rfl,Q51 hF hr hsz,Q10 fun i hi=>?_⟩
  obtain⟨cs,q1,q2⟩:=ih i hi (u i) (hu i hi)
  rw[q1];simpa [Value.cells] using q2
end Sv
end
section
open Go Go.RowKit
namespace Sv
attribute [local irreducible] SW SO Bh
set_option maxHeartbeats 1000000
set_option maxRecDepth 100000
theorem P0 (ls : List (List UInt8)) (s : List UInt8) (hl : ls.length ≤ 4611686018427387904) :
  FnV Tryz.prog 71 [(B1 ls),(.str s)] (.int .i64 (A6 ls s 0)):=by
 refine A1 [.tmp 4] Tryz.func71 rfl Tryz.ntmps71 rfl rfl (fun B F hF=>?_)
 refine Aa [] [0,1] ?_
 refine Ab ?_
 refine Aa [] [0,1,7,8] ?_
 refine Ax ?_
 refine B4 (fun g y=>∃(i:Nat),i≤ls.length∧A6 ls s 0=A6 (ls.drop i) s i∧y=⟨[(0,(B1 ls)),(1,(.str s)),(7,(.int .i64 ((ls.length:Int)))),(8,(.int .i64 ((i:Int))))],[],0⟩∧g=ls.length-i) [0,1,7,8] 0 _ (by omega) ⟨0,(by omega),(by rfl),(by kernel_rfl),rfl⟩ ?_
 rintro g1 y1 ⟨i,f1_1,f1_2,rfl,rfl⟩
 refine Aa [] [0,1,7,8,9] ?_
 refine Ab ?_
 refine Ba (p:=(i:Int) < (ls.length:Int)) (by kernel_rfl) (fun c1=>?_) (fun c1=>?_)
 ·refine Ah ?_
  refine Ab ?_
  refine Ax ?_
  refine Aa [] [0,1,5,7,8] ?_
  refine Ae [] [0,1,5,7,8,16] [] hk0 v0 (cc 3 (p:=(0≤(i:Int)∧i < ls.length)) (by omega)<|c0) ?_
  refine Ba (p:=s=nth ls i) (by kernel_rfl) (fun c2=>?_) (fun c2=>?_)
  ·refine Aa [] [4] ?_
   refine Ac ?_
   refine RK wR [(.int .i64 ((i:Int)))] ?_
   exact Same.of_eq (by rw[f1_2,U2 s (by omega),if_pos c2];rfl)
  ·refine Ah ?_
   refine Ar ?_
   refine Aw 0 [] [0,1,7,8] [] hk0 v0 (cc 0 (p:=(-9223372036854775808≤(i:Int)+1∧(i:Int)+1≤9223372036854775807)) (by omega)<|c0) ?_
   refine⟨by kernel_rfl,_,?_,i+1,?_,?_,(by kernel_rfl),rfl⟩
   ·omega
   ·omega
   ·rw[f1_2,U2 s (by omega),if_neg c2]
 ·refine Bq ?_
  refine Aa [] [4] ?_
  refine Ac ?_
  refine RK wR [(.int .i64 (-1))] ?_
  exact Same.of_eq (by rw[f1_2,List.drop_of_length_le (by omega)];rfl)
theorem Q1e (ls : List (List UInt8)) (s : List UInt8) (hl : ls.length ≤ 4611686018427387904) :
  FnV Tryz.prog 77 [(B1 ls),(.str s)] (.bool (decide (0≤A6 ls s 0))):=by
 refine A1 [.tmp 4] Tryz.func77 rfl Tryz.ntmps77 rfl rfl (fun B F hF=>?_)
 refine Aa [] [0,1] ?_
 refine Ae [] [4] [] (hk 2 Nm (P0 ls s hl)<|hk0) v0 c0 ?_
 refine Ac ?_
 refine RK wR [(.bool (decide (0≤(A6 ls s 0))))] ?_
 exact Same.of_eq (by first|rfl|(simp only[Ai];simp_all))
theorem V0  :
  FnV Tryz.prog 78 [] (B1 signsL):=by
 refine A1 [.tmp 0] Tryz.func78 rfl Tryz.ntmps78 rfl rfl (fun B F hF=>?_)
 refine Aa [] [] ?_
 refine Aa [] [0] ?_
 refine Ac ?_
 refine RK wR [(.row 1 8 (fun ix=>(Fa 1 8 [(.str []),(.str ([60])),(.str ([61])),(.str ([60,61])),(.str ([62])),(.str ([60,62])),(.str ([62,61])),(.str ([60,61,62]))]).getD ix Bl))] ?_
 exact(Imp.list (f:=AV.str) (l:=signsL) rfl).same
theorem U9  :
  FnV Tryz.prog 79 [] (B1 Bf):=by
 refine A1 [.tmp 0] Tryz.func79 rfl Tryz.ntmps79 rfl rfl (fun B F hF=>?_)
 refine Aa [] [] ?_
 refine Aa [] [0] ?_
 refine Ac ?_
 refine RK wR [(.row 1 7 (fun ix=>(Fa 1 7 [(.str []),(.str []),(.str ([97,110,100])),(.str ([111,114])),(.str ([105,102])),(.str ([119,105,116,104])),(.str ([119,105,116,104,111,117,116]))]).getD ix Bl))] ?_
 exact(Imp.list (f:=AV.str) (l:=Bf) rfl).same
theorem Mf (l : List UInt8) (hl : l.length ≤ 9223372036854775807) :
  FnV Tryz.prog 36 [(.str l)] (.bool (Bc l)):=by
 have hp:l=[]∨0 < l.length:=by cases l<;>simp
 refine A1 [.tmp 2] Tryz.func36 rfl Tryz.ntmps36 rfl rfl (fun B F hF=>?_)
 refine Aa [] [0] ?_
 refine Ab ?_
 obtain⟨b1,hb1⟩:∃b,b=(decide (l=[])):=⟨_,rfl⟩
 obtain⟨b2,hb2⟩:∃b,b=(b1||(decide (60 < (l.length:Int)))):=⟨_,rfl⟩
 obtain⟨b3,hb3⟩:∃b,b=(b2||(decide (((Ag l 0).toNat:Int)=40))):=⟨_,rfl⟩
 obtain⟨b4,hb4⟩:∃b,b=(b3||(decide (((Ag l 0).toNat:Int)=41))):=⟨_,rfl⟩
 obtain⟨b5,hb5⟩:∃b,b=(b4||(decide (l=[101,108,115,101]))):=⟨_,rfl⟩
 obtain⟨b6,hb6⟩:∃b,b=(b5||(decide (0≤A6 signsL l 0))):=⟨_,rfl⟩
 have qh1:(((!b1)=true→(!b1)=true))∧(((!b1)=true→(!b1)=true))∧((b1=false→(!b1)=true))∧(((!b2)=true→((!b2)=true)∧(0≤(0:Int)∧0 < l.length)))∧(((!b2)=true→(!b2)=true))∧((b2=false→(!b2)=true))∧(((!b3)=true→((!b3)=true)∧(0≤(0:Int)∧0 < l.length)))∧(((!b3)=true→(!b3)=true))∧((b3=false→(!b3)=true))∧(((!b4)=true→(!b4)=true))∧((b4=false→(!b4)=true)):=by
  rcases hp with hp|hp<;>simp_all
 refine Ae [9,10,11,14,15,16,19,20,21,24,25,29,34] [0,36] [] (hkg 22 (!b5) Tl (fun cg=>V0)<|hkg 24 (!b5) Z6 (fun cg=>(Q1e signsL l (by decide)))<|hkg 27 (!b6) Tk (fun cg=>U9)<|hkg 29 (!b6) Z6 (fun cg=>(Q1e Bf l (by decide)))<|hk0) (vk 3 8 (a:=.bool (decide (l=[]))) (b:=.bool b1) (Imp.of_eq (by rw[hb1]))<|vk 8 13 (a:=.bool (b1||(decide (60 < (l.length:Int))))) (b:=.bool b2) (Imp.of_eq (by rw[hb2]))<|vk 12 17 (a:=.bool (b2||(decide (((Ag l 0).toNat:Int)=40)))) (b:=.bool b3) (Imp.of_eq (by rw[hb3]))<|vk 17 22 (a:=.bool (b3||(decide (((Ag l 0).toNat:Int)=41)))) (b:=.bool b4) (Imp.of_eq (by rw[hb4]))<|vk 22 27 (a:=.bool (b4||(decide (l=[101,108,115,101])))) (b:=.bool b5) (Imp.of_eq (by rw[hb5]))<|vk 27 32 (a:=.bool (b5||(decide (0≤A6 signsL l 0)))) (b:=.bool b6) (Imp.of_eq (by rw[hb6]))<|v0) (cc 4 (p:=((!b1)=true→(!b1)=true)) qh1.1<|cc 5 (p:=((!b1)=true→(!b1)=true)) qh1.2.1<|cc 6 (p:=(b1=false→(!b1)=true)) qh1.2.2.1<|cc 9 (p:=((!b2)=true→((!b2)=true)∧(0≤(0:Int)∧0 < l.length))) qh1.2.2.2.1<|cc 10 (p:=((!b2)=true→(!b2)=true)) qh1.2.2.2.2.1<|cc 11 (p:=(b2=false→(!b2)=true)) qh1.2.2.2.2.2.1<|cc 14 (p:=((!b3)=true→((!b3)=true)∧(0≤(0:Int)∧0 < l.length))) qh1.2.2.2.2.2.2.1<|cc 15 (p:=((!b3)=true→(!b3)=true)) qh1.2.2.2.2.2.2.2.1<|cc 16 (p:=(b3=false→(!b3)=true)) qh1.2.2.2.2.2.2.2.2.1<|cc 19 (p:=((!b4)=true→(!b4)=true)) qh1.2.2.2.2.2.2.2.2.2.1<|cc 20 (p:=(b4=false→(!b4)=true)) qh1.2.2.2.2.2.2.2.2.2.2<|cc 24 (p:=(!b5)=true→(!b5)=true∧(!b5)=true) (by simp)<|cc 25 (p:=(b5=false→(!b5)=true)) (by simp)<|cc 29 (p:=(!b6)=true→(!b6)=true∧(!b6)=true) (by simp)<|cc 30 (p:=(b6=false→(!b6)=true)) (by simp)<|c0) ?_
 refine Be (q:=b6||(decide (0≤A6 Bf l 0))) (by kernel_rfl) (fun c1=>?_) (fun c1=>?_)
 ·subst hb6 hb5 hb4 hb3 hb2 hb1
  try simp only[Ao] at c1
  refine Aa [] [2] ?_
  refine Ac ?_
  refine RK wR [(.bool false)] ?_
  have h0:Fh l=true:=by
   unfold Fh
   rcases c1 with (((((h|h)|h)|h)|h)|h)|h<;>first|(simp[h];done)|(have h':60 < l.length:=(by omega);simp[h'];done)|(have h':(Ag l 0).toNat=40:=(by omega);simp[h'];done)|(have h':(Ag l 0).toNat=41:=(by omega);simp[h'];done)
  exact Same.of_eq (by simp only[Ai];rw[Bc,h0];rfl)
 ·subst hb6 hb5 hb4 hb3 hb2 hb1
  try simp only[Ao] at c1
  have hnh:Fh l=false:=by
   unfold Fh
   simp only[Bool.or_eq_false_iff,decide_eq_false_iff_not]
   exact⟨c1.1.1.1.1.1.1,by omega,by omega,by omega,c1.1.1.2,c1.1.2,c1.2⟩
  refine Ah ?_
  refine Aa [] [0,3] ?_
  refine Ab ?_
  refine Aa [] [0,3,38,39] ?_
  refine Ax ?_
  refine B4 (fun g y=>∃(k:Nat) (n:Int),k≤l.length∧Cz l 0=Cz (l.drop k) n∧(0≤n∧n≤k)∧l.length≤60∧Fh l=false∧y=⟨[(0,(.str l)),(3,(.int .i64 n)),(38,(.int .i64 ((l.length:Int)))),(39,(.int .i64 ((k:Int))))],[],0⟩∧g=l.length-k) [0,3,38,39] 0 _ (by omega) ⟨0,0,(by omega),(by rfl),(by omega),(by exact Nb hnh),(by exact hnh),(by kernel_rfl),rfl⟩ ?_
  rintro g1 y1 ⟨k,n,f1_1,f1_2,f1_3,f1_4,f1_5,rfl,rfl⟩
  refine Aa [] [0,3,38,39,40] ?_
  refine Ab ?_
  refine Ba (p:=(k:Int) < (l.length:Int)) (by kernel_rfl) (fun c2=>?_) (fun c2=>?_)
  ·refine Ah ?_
   refine Ab ?_
   refine Ax ?_
   refine Aa [] [0,3,4,38,39] ?_
   refine Db (fun y=>¬((Ag l k).toNat < 33∨126 < (Ag l k).toNat)∧y=⟨[(0,(.str l)),(3,(.int .i64 ((if (Ag l k).toNat=40 then n+1 else if (Ag l k).toNat=41 then n-1 else n)))),(38,(.int .i64 ((l.length:Int)))),(39,(.int .i64 ((k:Int))))],[],0⟩) [0,3,38,39] 0 (by omega) ?_ ?_
   ·refine Ae [] [0,3,5,38,39] [] hk0 v0 (cc 2 (p:=(0≤(k:Int)∧k < l.length)) (by omega)<|c0) ?_
    refine Ax ?_
    obtain⟨b7,hb7⟩:∃b,b=(decide (((Ag l k).toNat:Int) < 33)):=⟨_,rfl⟩
    obtain⟨b8,hb8⟩:∃b,b=(b7||(decide (126 < ((Ag l k).toNat:Int)))):=⟨_,rfl⟩
    refine Ae (CS:=[(4,((!b7)=true→(!b7)=true)),(5,(b7=false→(!b7)=true))]) [49,50] [0,3,5,38,39,45] [] hk0 (vk 3 48 (a:=.bool (decide (((Ag l k).toNat:Int) < 33))) (b:=.bool b7) (Imp.of_eq (by rw[hb7]))<|vk 6 51 (a:=.bool (b7||(decide (126 < ((Ag l k).toNat:Int))))) (b:=.bool b8) (Imp.of_eq (by rw[hb8]))<|v0) (by refine cc _ ?_<|cc _ ?_ c0<;>simp) ?_
    refine Be (q:=b8) (by kernel_rfl) (fun c3=>?_) (fun c3=>?_)
    ·subst hb8 hb7
     try simp only[Ao] at c3
     have hub:(Ag l k).toNat < 33∨126 < (Ag l k).toNat:=by omega
     refine Aa [] [2] ?_
     refine Ac ?_
     refine RK wR [(.bool false)] ?_
     exact Same.of_eq (by simp only[Ai];rw[Bc,f1_2,F3 (by omega),Cz,if_pos hub];simp)
    ·subst hb8 hb7
     try simp only[Ao] at c3
     have hub:¬((Ag l k).toNat < 33∨126 < (Ag l k).toNat):=by omega
     refine Aa [] [0,3,5,38,39,52] ?_
     refine Ba (p:=((Ag l k).toNat:Int)=40) (by kernel_rfl) (fun c4=>?_) (fun c4=>?_)
     ·refine Ar ?_
      refine Aw 0 [] [0,3,38,39] [] hk0 v0 (cc 1 (p:=(-9223372036854775808≤n+1∧n+1≤9223372036854775807)) (by omega)<|c0) ?_
      refine⟨by kernel_rfl,?_,(Eq.trans (b:=(⟨[(0,(.str l)),(3,(.int .i64 (n+1))),(38,(.int .i64 ((l.length:Int)))),(39,(.int .i64 ((k:Int))))],[],0⟩:St)) (by kernel_rfl) (by rw[show(if (Ag l k).toNat=40 then n+1 else if (Ag l k).toNat=41 then n-1 else n)=n+1 from by(repeat' split)<;>omega]))⟩
      exact hub
     ·refine Aa [] [0,3,38,39,57] ?_
      refine Ba (p:=((Ag l k).toNat:Int)=41) (by kernel_rfl) (fun c5=>?_) (fun c5=>?_)
      ·refine Ar ?_
       refine Aw 0 [] [0,3,38,39] [] hk0 v0 (cc 1 (p:=(-9223372036854775808≤n-1∧n-1≤9223372036854775807)) (by omega)<|c0) ?_
       refine⟨by kernel_rfl,?_,(Eq.trans (b:=(⟨[(0,(.str l)),(3,(.int .i64 (n-1))),(38,(.int .i64 ((l.length:Int)))),(39,(.int .i64 ((k:Int))))],[],0⟩:St)) (by kernel_rfl) (by rw[show(if (Ag l k).toNat=40 then n+1 else if (Ag l k).toNat=41 then n-1 else n)=n-1 from by(repeat' split)<;>omega]))⟩
       exact hub
      ·refine Ah ?_
       refine⟨by kernel_rfl,?_,(Eq.trans (b:=(⟨[(0,(.str l)),(3,(.int .i64 n)),(38,(.int .i64 ((l.length:Int)))),(39,(.int .i64 ((k:Int))))],[],0⟩:St)) (by kernel_rfl) (by rw[show(if (Ag l k).toNat=40 then n+1 else if (Ag l k).toNat=41 then n-1 else n)=n from by(repeat' split)<;>omega]))⟩
       exact hub
   ·rintro y1 ⟨hub,rfl⟩
    refine Aa [] [0,3,38,39,63] ?_
    refine Ba (p:=(if (Ag l k).toNat=40 then n+1 else if (Ag l k).toNat=41 then n-1 else n) < 0) (by kernel_rfl) (fun c6=>?_) (fun c6=>?_)
    ·refine Aa [] [2] ?_
     refine Ac ?_
     refine RK wR [(.bool false)] ?_
     exact Same.of_eq (by simp only[Ai];rw[Bc,f1_2,Pg (by omega) hub];simp only[if_pos c6];simp)
    ·refine Ah ?_
     refine Ar ?_
     refine Aw 0 [] [0,3,38,39] [] hk0 v0 (cc 0 (p:=(-9223372036854775808≤(k:Int)+1∧(k:Int)+1≤9223372036854775807)) (by omega)<|c0) ?_
     refine⟨by kernel_rfl,_,?_,k+1,(if (Ag l k).toNat=40 then n+1 else if (Ag l k).toNat=41 then n-1 else n),?_,?_,?_,?_,?_,(by kernel_rfl),rfl⟩
     ·omega
     ·omega
     ·rw[f1_2,Pg (by omega) hub];simp only[if_neg c6]
     ·constructor<;>((repeat' split)<;>omega)
     ·exact f1_4
     ·exact f1_5
  ·refine Bq ?_
   refine Aa [] [2] ?_
   refine Ac ?_
   refine RK wR [(.bool (decide (n=0)))] ?_
   exact Same.of_eq (by simp only[Ai];rw[Bc,f1_5,f1_2,List.drop_of_length_le (by omega),Cz];simp)
theorem Q3v (s : List UInt8) :
  FnV Tryz.prog 57 [(.str s)] (.bool (K3 s)):=by
 refine A1 [.tmp 2] Tryz.func57 rfl Tryz.ntmps57 rfl rfl (fun B F hF=>?_)
 refine Aa [] [0] ?_
 obtain⟨b1,hb1⟩:∃b,b=(decide (s=[97,110,100])):=⟨_,rfl⟩
 obtain⟨b2,hb2⟩:∃b,b=(b1||(decide (s=[111,114]))):=⟨_,rfl⟩
 obtain⟨b3,hb3⟩:∃b,b=(b2||(decide (s=[105,102]))):=⟨_,rfl⟩
 obtain⟨b4,hb4⟩:∃b,b=(b3||(decide (s=[101,108,115,101]))):=⟨_,rfl⟩
 obtain⟨b5,hb5⟩:∃b,b=(b4||(decide (s=[119,105,116,104]))):=⟨_,rfl⟩
 obtain⟨b6,hb6⟩:∃b,b=(b5||(decide (s=[119,105,116,104,111,117,116]))):=⟨_,rfl⟩
 refine Ae (CS:=[(4,((!b1)=true→(!b1)=true)),(5,(b1=false→(!b1)=true)),(8,((!b2)=true→(!b2)=true)),(9,(b2=false→(!b2)=true)),(12,((!b3)=true→(!b3)=true)),(13,(b3=false→(!b3)=true)),(16,((!b4)=true→(!b4)=true)),(17,(b4=false→(!b4)=true)),(20,((!b5)=true→(!b5)=true)),(21,(b5=false→(!b5)=true))]) [6,7,10,11,14,15,18,19,22,23] [2] [] hk0 (vk 3 5 (a:=.bool (decide (s=[97,110,100]))) (b:=.bool b1) (Imp.of_eq (by rw[hb1]))<|vk 7 9 (a:=.bool (b1||(decide (s=[111,114])))) (b:=.bool b2) (Imp.of_eq (by rw[hb2]))<|vk 11 13 (a:=.bool (b2||(decide (s=[105,102])))) (b:=.bool b3) (Imp.of_eq (by rw[hb3]))<|vk 15 17 (a:=.bool (b3||(decide (s=[101,108,115,101])))) (b:=.bool b4) (Imp.of_eq (by rw[hb4]))<|vk 19 21 (a:=.bool (b4||(decide (s=[119,105,116,104])))) (b:=.bool b5) (Imp.of_eq (by rw[hb5]))<|vk 22 24 (a:=.bool (b5||(decide (s=[119,105,116,104,111,117,116])))) (b:=.bool b6) (Imp.of_eq (by rw[hb6]))<|v0) (by refine cc _ ?_<|cc _ ?_<|cc _ ?_<|cc _ ?_<|cc _ ?_<|cc _ ?_<|cc _ ?_<|cc _ ?_<|cc _ ?_<|cc _ ?_ c0<;>simp) ?_
 refine Ac ?_
 refine RK wR [(.bool b6)] ?_
 subst hb6 hb5 hb4 hb3 hb2 hb1
 exact Same.of_eq (by simp only[Ai];unfold K3;simp only[Bool.or_assoc])
theorem Q44 (s : List UInt8) :
  FnV Tryz.prog 58 [(.str s)] (.int .i64 (D7 s)):=by
 refine A1 [.tmp 2] Tryz.func58 rfl Tryz.ntmps58 rfl rfl (fun B F hF=>?_)
 refine Aa [] [0] ?_
 refine Ab ?_
 refine Aa [] [3] ?_
 refine Ax ?_
 refine Aa [] [3,4] ?_
 refine Ba (p:=s=[60]) (by kernel_rfl) (fun c1=>?_) (fun c1=>?_)
 ·refine Aa [] [2] ?_
  refine Ac ?_
  refine RK wR [(.int .i64 1)] ?_
  exact Same.of_eq (by simp only[Ai];congr 1;simp[D7, *])
 ·refine Aa [] [3,6] ?_
  refine Ba (p:=s=[61]) (by kernel_rfl) (fun c2=>?_) (fun c2=>?_)
  ·refine Aa [] [2] ?_
   refine Ac ?_
   refine RK wR [(.int .i64 2)] ?_
   exact Same.of_eq (by simp only[Ai];congr 1;simp[D7, *])
  ·refine Aa [] [3,8] ?_
   refine Ba (p:=s=[60,61]) (by kernel_rfl) (fun c3=>?_) (fun c3=>?_)
   ·refine Aa [] [2] ?_
    refine Ac ?_
    refine RK wR [(.int .i64 3)] ?_
    exact Same.of_eq (by simp only[Ai];congr 1;simp[D7, *])
   ·refine Aa [] [3,10] ?_
    refine Ba (p:=s=[62]) (by kernel_rfl) (fun c4=>?_) (fun c4=>?_)
    ·refine Aa [] [2] ?_
     refine Ac ?_
     refine RK wR [(.int .i64 4)] ?_
     exact Same.of_eq (by simp only[Ai];congr 1;simp[D7, *])
    ·refine Aa [] [3,12] ?_
     refine Ba (p:=s=[60,62]) (by kernel_rfl) (fun c5=>?_) (fun c5=>?_)
     ·refine Aa [] [2] ?_
      refine Ac ?_
      refine RK wR [(.int .i64 5)] ?_
      exact Same.of_eq (by simp only[Ai];congr 1;simp[D7, *])
     ·refine Aa [] [3,14] ?_
      refine Ba (p:=s=[62,61]) (by kernel_rfl) (fun c6=>?_) (fun c6=>?_)
      ·refine Aa [] [2] ?_
       refine Ac ?_
       refine RK wR [(.int .i64 6)] ?_
       exact Same.of_eq (by simp only[Ai];congr 1;simp[D7, *])
      ·refine Aa [] [16] ?_
       refine Ba (p:=s=[60,61,62]) (by kernel_rfl) (fun c7=>?_) (fun c7=>?_)
       ·refine Aa [] [2] ?_
        refine Ac ?_
        refine RK wR [(.int .i64 7)] ?_
        exact Same.of_eq (by simp only[Ai];congr 1;simp[D7, *])
       ·refine Ah ?_
        refine Aa [] [2] ?_
        refine Ac ?_
        refine RK wR [(.int .i64 0)] ?_
        exact Same.of_eq (by simp only[Ai];congr 1;simp[D7, *])
theorem O7 (l : List UInt8) (hl : l.length ≤ 9223372036854775807) :
  FnV Tryz.prog 23 [(.str l)] (.bool (Bc l)):=by
 have hp:l.length < 1∨0 < l.length:=by omega
 refine A1 [.tmp 2] Tryz.func23 rfl Tryz.ntmps23 rfl rfl (fun B F hF=>?_)
 refine Aa [] [0] ?_
 refine Ae [] [0,3] [] (hk 1 X05 (Q3v l)<|hk0) v0 c0 ?_
 refine Ab ?_
 obtain⟨b1,hb1⟩:∃b,b=(decide ((l.length:Int) < 1)):=⟨_,rfl⟩
 obtain⟨b2,hb2⟩:∃b,b=(b1||(decide (60 < (l.length:Int)))):=⟨_,rfl⟩
 obtain⟨b3,hb3⟩:∃b,b=(b2||(decide (((Ag l 0).toNat:Int)=40))):=⟨_,rfl⟩
 obtain⟨b4,hb4⟩:∃b,b=(b3||(decide (((Ag l 0).toNat:Int)=41))):=⟨_,rfl⟩
 obtain⟨b5,hb5⟩:∃b,b=(b4||(K3 l)):=⟨_,rfl⟩
 have qh1:(((!b1)=true→(!b1)=true))∧(((!b1)=true→(!b1)=true))∧((b1=false→(!b1)=true))∧(((!b2)=true→((!b2)=true)∧(0≤(0:Int)∧0 < l.length)))∧(((!b2)=true→(!b2)=true))∧((b2=false→(!b2)=true))∧(((!b3)=true→((!b3)=true)∧(0≤(0:Int)∧0 < l.length)))∧(((!b3)=true→(!b3)=true))∧((b3=false→(!b3)=true))∧((b4=false→(!b4)=true)):=by
  rcases hp with hp|hp<;>simp_all
 refine Ae [12,13,14,17,18,19,22,23,24,27,30,32] [0,33] [] (hkg 23 (!b5) X04 (fun cg=>Q44 l)<|hk0) (vk 4 11 (a:=.bool (decide ((l.length:Int) < 1))) (b:=.bool b1) (Imp.of_eq (by rw[hb1]))<|vk 9 16 (a:=.bool (b1||(decide (60 < (l.length:Int))))) (b:=.bool b2) (Imp.of_eq (by rw[hb2]))<|vk 13 20 (a:=.bool (b2||(decide (((Ag l 0).toNat:Int)=40)))) (b:=.bool b3) (Imp.of_eq (by rw[hb3]))<|vk 18 25 (a:=.bool (b3||(decide (((Ag l 0).toNat:Int)=41)))) (b:=.bool b4) (Imp.of_eq (by rw[hb4]))<|vk 22 29 (a:=.bool (b4||(K3 l))) (b:=.bool b5) (Imp.of_eq (by rw[hb5]))<|v0) (cc 5 (p:=((!b1)=true→(!b1)=true)) qh1.1<|cc 6 (p:=((!b1)=true→(!b1)=true)) qh1.2.1<|cc 7 (p:=(b1=false→(!b1)=true)) qh1.2.2.1<|cc 10 (p:=((!b2)=true→((!b2)=true)∧(0≤(0:Int)∧0 < l.length))) qh1.2.2.2.1<|cc 11 (p:=((!b2)=true→(!b2)=true)) qh1.2.2.2.2.1<|cc 12 (p:=(b2=false→(!b2)=true)) qh1.2.2.2.2.2.1<|cc 15 (p:=((!b3)=true→((!b3)=true)∧(0≤(0:Int)∧0 < l.length))) qh1.2.2.2.2.2.2.1<|cc 16 (p:=((!b3)=true→(!b3)=true)) qh1.2.2.2.2.2.2.2.1<|cc 17 (p:=(b3=false→(!b3)=true)) qh1.2.2.2.2.2.2.2.2.1<|cc 20 (p:=(b4=false→(!b4)=true)) qh1.2.2.2.2.2.2.2.2.2<|cc 23 (p:=(!b5)=true→(!b5)=true) (by simp)<|cc 24 (p:=((!b5)=true→(!b5)=true)) (by simp)<|cc 25 (p:=(b5=false→(!b5)=true)) (by simp)<|c0) ?_
 refine Be (q:=b5||(!decide ((D7 l)=0))) (by kernel_rfl) (fun c1=>?_) (fun c1=>?_)
 ·subst hb5 hb4 hb3 hb2 hb1
  try simp only[Ao] at c1
  refine Aa [] [2] ?_
  refine Ac ?_
  refine RK wR [(.bool false)] ?_
  have h0:Fh l=true:=by
   rw[←Wj]
   unfold O8
   rcases c1 with ((((h|h)|h)|h)|h)|h<;>first|(simp[h];done)|(have h':l.length < 1:=(by omega);simp[h'];done)|(have h':60 < l.length:=(by omega);simp[h'];done)|(have h':(Ag l 0).toNat=40:=(by omega);simp[h'];done)|(have h':(Ag l 0).toNat=41:=(by omega);simp[h'];done)|(have h':¬D7 l=0:=(by omega);simp[h'];done)
  exact Same.of_eq (by simp only[Ai];rw[Bc,h0];rfl)
 ·subst hb5 hb4 hb3 hb2 hb1
  try simp only[Ao] at c1
  have hnh:Fh l=false:=by
   rw[←Wj]
   unfold O8
   simp only[Bool.or_eq_false_iff,decide_eq_false_iff_not]
   exact⟨by omega,by omega,by omega,by omega,c1.1.2,by omega⟩
  refine Ah ?_
  refine Aa [] [0,4] ?_
  refine Ab ?_
  refine Aa [] [0,4,5] ?_
  refine Ax ?_
  refine B4 (fun g y=>∃(k:Nat) (n:Int),k≤l.length∧Cz l 0=Cz (l.drop k) n∧(0≤n∧n≤k)∧l.length≤60∧Fh l=false∧y=⟨[(0,(.str l)),(4,(.int .i64 n)),(5,(.int .i64 ((k:Int))))],[],0⟩∧g=l.length-k) [0,4,5] 0 _ (by omega) ⟨0,0,(by omega),(by rfl),(by omega),(by exact Nb hnh),(by exact hnh),(by kernel_rfl),rfl⟩ ?_
  rintro g1 y1 ⟨k,n,f1_1,f1_2,f1_3,f1_4,f1_5,rfl,rfl⟩
  refine Ab ?_
  refine Aa [] [0,4,5,37] ?_
  refine Ba (p:=(k:Int) < (l.length:Int)) (by kernel_rfl) (fun c2=>?_) (fun c2=>?_)
  ·refine Ah ?_
   refine Ab ?_
   refine Ax ?_
   refine Ab ?_
   obtain⟨b6,hb6⟩:∃b,b=(decide (((Ag l k).toNat:Int) < 33)):=⟨_,rfl⟩
   refine Ae (CS:=[(2,(0≤(k:Int)∧k < l.length)),(7,((!b6)=true→((!b6)=true∧(!b6)=true)∧(0≤(k:Int)∧k < l.length))),(8,((!b6)=true→(!b6)=true)),(9,(b6=false→(!b6)=true))]) [45,46,47,48] [0,4,5,49] [] hk0 (vk 5 44 (a:=.bool (decide (((Ag l k).toNat:Int) < 33))) (b:=.bool b6) (Imp.of_eq (by rw[hb6]))<|v0) (by refine cc _ ?_<|cc _ ?_<|cc _ ?_<|cc _ ?_ c0<;>(intros;simp_all;done)) ?_
   refine Be (q:=b6||(decide (126 < ((Ag l k).toNat:Int)))) (by kernel_rfl) (fun c3=>?_) (fun c3=>?_)
   ·subst hb6
    try simp only[Ao] at c3
    have hub:(Ag l k).toNat < 33∨126 < (Ag l k).toNat:=by omega
    refine Aa [] [2] ?_
    refine Ac ?_
    refine RK wR [(.bool false)] ?_
    exact Same.of_eq (by simp only[Ai];rw[Bc,f1_2,F3 (by omega),Cz,if_pos hub];simp)
   ·subst hb6
    try simp only[Ao] at c3
    have hub:¬((Ag l k).toNat < 33∨126 < (Ag l k).toNat):=by omega
    refine Ah ?_
    refine Db (fun y=>y=⟨[(0,(.str l)),(4,(.int .i64 ((if (Ag l k).toNat=40 then n+1 else n)))),(5,(.int .i64 ((k:Int))))],[],0⟩) [0,4,5] 0 (by omega) ?_ ?_
    ·refine Ae [] [0,4,5,53] [] hk0 v0 (cc 2 (p:=(0≤(k:Int)∧k < l.length)) (by omega)<|c0) ?_
     refine Ba (p:=((Ag l k).toNat:Int)=40) (by kernel_rfl) (fun c4=>?_) (fun c4=>?_)
     ·refine Ar ?_
      refine Aw 0 [] [0,4,5] [] hk0 v0 (cc 1 (p:=(-9223372036854775808≤n+1∧n+1≤9223372036854775807)) (by omega)<|c0) ?_
      refine⟨by kernel_rfl,(Eq.trans (b:=(⟨[(0,(.str l)),(4,(.int .i64 (n+1))),(5,(.int .i64 ((k:Int))))],[],0⟩:St)) (by kernel_rfl) (by rw[show(if (Ag l k).toNat=40 then n+1 else n)=n+1 from if_pos (by omega)]))⟩
     ·refine Ah ?_
      refine⟨by kernel_rfl,(Eq.trans (b:=(⟨[(0,(.str l)),(4,(.int .i64 n)),(5,(.int .i64 ((k:Int))))],[],0⟩:St)) (by kernel_rfl) (by rw[show(if (Ag l k).toNat=40 then n+1 else n)=n from if_neg (by omega)]))⟩
    ·rintro y1 rfl
     refine Db (fun y=>y=⟨[(0,(.str l)),(4,(.int .i64 ((if (Ag l k).toNat=40 then n+1 else if (Ag l k).toNat=41 then n-1 else n)))),(5,(.int .i64 ((k:Int))))],[],0⟩) [0,4,5] 0 (by omega) ?_ ?_
     ·refine Ae [] [0,4,5,59] [] hk0 v0 (cc 2 (p:=(0≤(k:Int)∧k < l.length)) (by omega)<|c0) ?_
      refine Ba (p:=((Ag l k).toNat:Int)=41) (by kernel_rfl) (fun c5=>?_) (fun c5=>?_)
      ·refine Ar ?_
       refine Aw 0 [] [0,4,5] [] hk0 v0 (cc 1 (p:=(-9223372036854775808≤(if (Ag l k).toNat=40 then n+1 else n)-1∧(if (Ag l k).toNat=40 then n+1 else n)-1≤9223372036854775807)) (by omega)<|c0) ?_
       refine⟨by kernel_rfl,(Eq.trans (b:=(⟨[(0,(.str l)),(4,(.int .i64 ((if (Ag l k).toNat=40 then n+1 else n)-1))),(5,(.int .i64 ((k:Int))))],[],0⟩:St)) (by kernel_rfl) (by rw[show(if (Ag l k).toNat=40 then n+1 else if (Ag l k).toNat=41 then n-1 else n)=(if (Ag l k).toNat=40 then n+1 else n)-1 from by(repeat' split)<;>omega]))⟩
      ·refine Ah ?_
       refine⟨by kernel_rfl,(Eq.trans (b:=(⟨[(0,(.str l)),(4,(.int .i64 ((if (Ag l k).toNat=40 then n+1 else n)))),(5,(.int .i64 ((k:Int))))],[],0⟩:St)) (by kernel_rfl) (by rw[show(if (Ag l k).toNat=40 then n+1 else if (Ag l k).toNat=41 then n-1 else n)=(if (Ag l k).toNat=40 then n+1 else n) from by(repeat' split)<;>omega]))⟩
     ·rintro y2 rfl
      refine Aa [] [0,4,5,63] ?_
      refine Ba (p:=(if (Ag l k).toNat=40 then n+1 else if (Ag l k).toNat=41 then n-1 else n) < 0) (by kernel_rfl) (fun c6=>?_) (fun c6=>?_)
      ·refine Aa [] [2] ?_
       refine Ac ?_
       refine RK wR [(.bool false)] ?_
       exact Same.of_eq (by simp only[Ai];rw[Bc,f1_2,Pg (by omega) hub];simp only[if_pos c6];simp)
      ·refine Ah ?_
       refine Ar ?_
       refine Aw 0 [] [0,4,5] [] hk0 v0 (cc 1 (p:=(-9223372036854775808≤(k:Int)+1∧(k:Int)+1≤9223372036854775807)) (by omega)<|c0) ?_
       refine⟨by kernel_rfl,_,?_,k+1,(if (Ag l k).toNat=40 then n+1 else if (Ag l k).toNat=41 then n-1 else n),?_,?_,?_,?_,?_,(by kernel_rfl),rfl⟩
       ·omega
       ·omega
       ·rw[f1_2,Pg (by omega) hub];simp only[if_neg c6]
       ·constructor<;>((repeat' split)<;>omega)
       ·exact f1_4
       ·exact f1_5
  ·refine Bq ?_
   refine Aa [] [2] ?_
   refine Ac ?_
   refine RK wR [(.bool (decide (n=0)))] ?_
   exact Same.of_eq (by simp only[Ai];rw[Bc,f1_5,f1_2,List.drop_of_length_le (by omega),Cz];simp)
end Sv
end
section
open Go Go.RowKit
namespace Sv
attribute [local irreducible] SW SO Bh
set_option maxHeartbeats 400000
set_option maxRecDepth 100000
theorem Hv:Aj Tryz.prog 127:=Ap Tryz.func127 (by kernel_rfl) rfl
theorem L4:Aj Tryz.prog 128:=Ap Tryz.func128 (by kernel_rfl) rfl
theorem G4:Aj Tryz.prog 130:=Ap Tryz.func130 (by kernel_rfl) rfl
theorem Q0l:Aj Tryz.prog 215:=Ap Tryz.func215 (by kernel_rfl) rfl
theorem Qe:Aj Tryz.prog 207:=Ap Tryz.func207 (by kernel_rfl) rfl
def A9 (c:UInt8):Bool:=decide (48≤c.toNat)&&decide (c.toNat≤57)
def Bx (c:UInt8):Bool:=(decide (97≤c.toNat)&&decide (c.toNat≤122))||(decide (65≤c.toNat)&&decide (c.toNat≤90))
def Az (p:UInt8→Bool) (s:List UInt8):Nat:=(s.takeWhile p).length
theorem Iq (p:UInt8→Bool):∀s:List UInt8,Az p s≤s.length
 |[]=>Nat.le_refl _
 |a::r=>by
  have:=Iq p r
  unfold Az at this ⊢
  rw[List.takeWhile_cons]
  split<;>simp<;>omega
theorem Q1a {p:UInt8→Bool}:∀{s:List UInt8} {i:Nat},i < s.length→(∀j,j < i→p (Ag s j)=true)→p (Ag s i)=false→Az p s=i
 |[],_,h,_,_=>by simp at h
 |a::r,0,_,_,h=>by
  have h:p a=false:=h
  unfold Az;rw[List.takeWhile_cons,h];rfl
 |a::r,i+1,hi,h,hp=>by
  have h0:p a=true:=h 0 (by omega)
  have:=Q1a (s:=r) (i:=i) (by simpa using hi) (fun j hj=>h (j+1) (by omega)) hp
  unfold Az at this ⊢
  rw[List.takeWhile_cons,h0]
  simp[this]
theorem Q1b {p:UInt8→Bool}:∀{s:List UInt8},(∀j,j < s.length→p (Ag s j)=true)→Az p s=s.length
 |[],_=>rfl
 |a::r,h=>by
  have h0:p a=true:=h 0 (by simp)
  have:=Q1b (s:=r) (fun j hj=>h (j+1) (by simpa using hj))
  unfold Az at this ⊢
  rw[List.takeWhile_cons,h0]
  simp[this]
def Gf (a b:Bool) (g:Int):Int:=if (a&&!b)=true then g else if (b&&!a)=true then -g else 0
def C3 (s:List UInt8):Int:=if s=[]∨A9 (Ag s 0)=true then 0 else if (Ag s 0).toNat=126 then -1 else if Bx (Ag s 0)=true then (Ag s 0).toNat else 256+((Ag s 0).toNat:Int)
theorem Im (c : UInt8) :
  FnV Tryz.prog 127 [(.int .u8 ((c.toNat:Int)))] (.bool (A9 c)):=by
 refine A1 [.tmp 2] Tryz.func127 rfl Tryz.ntmps127 rfl rfl (fun B F hF=>?_)
 refine Aa [] [0] ?_
 obtain⟨b1,hb1⟩:∃b,b=(decide (48≤(c.toNat:Int))):=⟨_,rfl⟩
 refine Ae (CS:=[(4,(b1=true→b1=true)),(5,(b1=true→b1=true))]) [6,7] [2] [] hk0 (vk 3 5 (a:=.bool (decide (48≤(c.toNat:Int)))) (b:=.bool b1) (Imp.of_eq (by rw[hb1]))<|v0) (by refine cc _ ?_<|cc _ ?_ c0<;>simp) ?_
 refine Ac ?_
 refine RK wR [(.bool (b1&&(decide ((c.toNat:Int)≤57))))] ?_
 subst hb1
 refine Same.of_eq ?_
 simp only[Ai]
 congr 1
 unfold A9
 rw[Bool.eq_iff_iff]
 simp only[Bool.and_eq_true,Bool.or_eq_true,decide_eq_true_eq]
 omega
theorem M3 (c : UInt8) :
  FnV Tryz.prog 128 [(.int .u8 ((c.toNat:Int)))] (.bool (Bx c)):=by
 refine A1 [.tmp 2] Tryz.func128 rfl Tryz.ntmps128 rfl rfl (fun B F hF=>?_)
 refine Aa [] [0] ?_
 obtain⟨b1,hb1⟩:∃b,b=(decide (97≤(c.toNat:Int))):=⟨_,rfl⟩
 obtain⟨b2,hb2⟩:∃b,b=(b1&&(decide ((c.toNat:Int)≤122))):=⟨_,rfl⟩
 obtain⟨b3,hb3⟩:∃b,b=(b2||((decide (65≤(c.toNat:Int)))&&(decide ((c.toNat:Int)≤90)))):=⟨_,rfl⟩
 refine Ae (CS:=[(4,(b1=true→b1=true)),(5,(b1=true→b1=true)),(8,((!b2)=true→(!b2)=true)),(9,((!b2)=true→(!b2)=true)),(11,(((!b2)&&(decide (65≤(c.toNat:Int))))=true→((!b2)&&(decide (65≤(c.toNat:Int))))=true)),(12,((!b2)=true→((!b2)=true)∧((decide (65≤(c.toNat:Int)))=true→((!b2)&&(decide (65≤(c.toNat:Int))))=true))),(13,(b2=false→(!b2)=true))]) [6,7,10,11,12,13,14,15] [2] [] hk0 (vk 3 5 (a:=.bool (decide (97≤(c.toNat:Int)))) (b:=.bool b1) (Imp.of_eq (by rw[hb1]))<|vk 7 9 (a:=.bool (b1&&(decide ((c.toNat:Int)≤122)))) (b:=.bool b2) (Imp.of_eq (by rw[hb2]))<|vk 14 16 (a:=.bool (b2||((decide (65≤(c.toNat:Int)))&&(decide ((c.toNat:Int)≤90))))) (b:=.bool b3) (Imp.of_eq (by rw[hb3]))<|v0) (by refine cc _ ?_<|cc _ ?_<|cc _ ?_<|cc _ ?_<|cc _ ?_<|cc _ ?_<|cc _ ?_ c0<;>(intros;simp_all;done)) ?_
 refine Ac ?_
 refine RK wR [(.bool b3)] ?_
 subst hb3 hb2 hb1
 refine Same.of_eq ?_
 simp only[Ai]
 congr 1
 unfold Bx
 rw[Bool.eq_iff_iff]
 simp only[Bool.and_eq_true,Bool.or_eq_true,decide_eq_true_eq]
 omega
theorem Pi (a b : Bool) (g : Int) (hg : -1 ≤ g ∧ g ≤ 1) :
  FnV Tryz.prog 207 [(.bool a),(.bool b),(.int .i64 g)] (.int .i64 (Gf a b g)):=by
 refine A1 [.tmp 6] Tryz.func207 rfl Tryz.ntmps207 rfl rfl (fun B F hF=>?_)
 refine Aa [] [0,1,2] ?_
 refine Ab ?_
 refine Ax ?_
 refine Ae (CS:=[(3,(a=true→a=true)),(4,(a=true→a=true))]) [10,11] [0,1,2,7] [] hk0 v0 (by refine cc _ ?_<|cc _ ?_ c0<;>simp) ?_
 refine Be (q:=a&&(!b)) (by kernel_rfl) (fun c1=>?_) (fun c1=>?_)
 ·try simp only[Ao] at c1
  refine Aa [] [6] ?_
  refine Ac ?_
  refine RK wR [(.int .i64 g)] ?_
  refine Same.of_eq ?_
  simp only[Ai]
  congr 1
  unfold Gf
  cases a<;>cases b<;>first|rfl|(show 0-g = -g;omega)|(simp at c1;done)|(simp at c2;done)|contradiction
 ·try simp only[Ao] at c1
  refine Ae (CS:=[(3,(b=true→b=true)),(4,(b=true→b=true))]) [17,18] [2,14] [] hk0 v0 (by refine cc _ ?_<|cc _ ?_ c0<;>simp) ?_
  refine Be (q:=b&&(!a)) (by kernel_rfl) (fun c2=>?_) (fun c2=>?_)
  ·try simp only[Ao] at c2
   refine Ae [] [6] [] hk0 v0 (cc 1 (p:=(-9223372036854775808≤0-g∧0-g≤9223372036854775807)) (by omega)<|c0) ?_
   refine Ac ?_
   refine RK wR [(.int .i64 (0-g))] ?_
   refine Same.of_eq ?_
   simp only[Ai]
   congr 1
   unfold Gf
   cases a<;>cases b<;>first|rfl|(show 0-g = -g;omega)|(simp at c1;done)|(simp at c2;done)|contradiction
  ·try simp only[Ao] at c2
   refine Ah ?_
   refine Aa [] [6] ?_
   refine Ac ?_
   refine RK wR [(.int .i64 0)] ?_
   refine Same.of_eq ?_
   simp only[Ai]
   congr 1
   unfold Gf
   cases a<;>cases b<;>first|rfl|(show 0-g = -g;omega)|(simp at c1;done)|(simp at c2;done)|contradiction
theorem Hx (s : List UInt8) (a : AV) (p : UInt8 → Bool) (hl : s.length ≤ 9223372036854775806) (ha : ∀ c : UInt8, FunV Tryz.prog a [.int .u8 (c.toNat : Int)] (.bool (p c))) :
  FnV Tryz.prog 130 [(.str s),(.clo a)] (.int .i64 ((Az p s:Int))):=by
 refine A1 [.tmp 4] Tryz.func130 rfl Tryz.ntmps130 rfl rfl (fun B F hF=>?_)
 refine Aa [] [0,1] ?_
 refine Aa [] [0,1,5] ?_
 refine Ab ?_
 refine Ax ?_
 refine B4 (fun g y=>∃(i:Nat),i≤s.length∧(∀j,j < i→p (Ag s j)=true)∧y=⟨[(0,(.str s)),(1,(.clo a)),(5,(.int .i64 ((i:Int))))],[],0⟩∧g=s.length-i) [0,1,5] 0 _ (by omega) ⟨0,(by omega),(by exact fun j hj=>by omega),(by kernel_rfl),rfl⟩ ?_
 rintro g1 y1 ⟨i,f1_1,f1_2,rfl,rfl⟩
 refine Ab ?_
 refine Ab ?_
 refine Ar ?_
 obtain⟨b1,hb1⟩:∃b,b=(decide ((i:Int) < (s.length:Int))):=⟨_,rfl⟩
 refine Bm 5 0 [] [0,1,5,10] [] hk0 v0 c0 ?_
 refine Js 10 (a:=.bool (decide ((i:Int) < (s.length:Int)))) (.bool b1) (by kernel_rfl) (Imp.of_eq (by rw[hb1])) ?_
 refine Hy b1 (fun c1=>?_) (fun c1=>?_)
 ·refine Js 10 (a:=.bool b1) (.bool true) (by kernel_rfl) (Imp.of_eq (by rw[c1])) ?_
  refine Bm 4 5 [] [0,1,5,10,11,14] [] hk0 v0 (cc 8 (p:=(0≤(i:Int)∧i < s.length)) (by(intros;simp_all;done))<|c0) ?_
  refine Fq (s':=[(0,(.str s)),(1,(.clo a)),(5,(.int .i64 ((i:Int)))),(10,(.bool true)),(11,(.clo a)),(14,(.int .u8 (((Ag s i).toNat:Int)))),(15,(.bool (p (Ag s i))))]) (a:=(.clo a)) (al:=[(.int .u8 (((Ag s i).toNat:Int)))]) (r:=(.bool (p (Ag s i)))) (by kernel_rfl) (by kernel_rfl) (by kernel_rfl) (by kernel_rfl) (by kernel_rfl) ((ha (Ag s i)).clo) (by kernel_rfl) ?_
  refine Aw 10 [] [0,1,5,16] [] hk0 v0 c0 ?_
  refine Be (q:=p (Ag s i)) (by kernel_rfl) (fun c2=>?_) (fun c2=>?_)
  ·subst hb1
   try simp only[Ao] at c2
   refine Ah ?_
   refine Ax ?_
   refine Ar ?_
   refine Aw 0 [] [0,1,5] [] hk0 v0 (cc 1 (p:=(-9223372036854775808≤(i:Int)+1∧(i:Int)+1≤9223372036854775807)) (by omega)<|c0) ?_
   refine⟨by kernel_rfl,_,?_,i+1,?_,?_,(by kernel_rfl),rfl⟩
   ·simp_all;omega
   ·simp_all;omega
   ·intro j hj
    by_cases h:j=i
    ·subst h;assumption
    ·exact f1_2 j (by omega)
  ·subst hb1
   try simp only[Ao] at c2
   refine Bq ?_
   refine Aa [] [4] ?_
   refine Ac ?_
   refine RK wR [(.int .i64 ((i:Int)))] ?_
   exact Same.of_eq (by simp only[Ai];rw[Q1a (i:=i) (by simp_all) f1_2 (by simp_all)])
 ·refine Js 10 (a:=.bool b1) (.bool false) (by kernel_rfl) (Imp.of_eq (by rw[c1])) ?_
  refine Aw 5 [] [0,1,5,16] [] hk0 v0 c0 ?_
  refine Dp (by kernel_rfl) ?_
  refine Bq ?_
  refine Aa [] [4] ?_
  refine Ac ?_
  refine RK wR [(.int .i64 ((i:Int)))] ?_
  subst hb1
  exact Same.of_eq (by simp only[Ai];rw[Q1b (fun j hj=>f1_2 j (by simp_all;omega))];congr 2;simp_all;omega)
theorem Vd (s : List UInt8) :
  FnV Tryz.prog 215 [(.str s)] (.int .i64 (C3 s)):=by
 have hb:=(Ag s 0).toNat_lt
 have hp:s=[]∨0 < s.length:=by cases s<;>simp
 refine A1 [.tmp 2] Tryz.func215 rfl Tryz.ntmps215 rfl rfl (fun B F hF=>?_)
 refine Aa [] [0] ?_
 refine Ab ?_
 refine Ax ?_
 obtain⟨b1,hb1⟩:∃b,b=(decide (s=[])):=⟨_,rfl⟩
 have qh1:(((!b1)=true→((!b1)=true)∧(0≤(0:Int)∧0 < s.length))):=by
  rcases hp with hp|hp<;>first|(simp_all;done)|omega|(simp_all;omega)|(simp;omega)
 refine Ae [7,8] [0,3] [] (hkg 5 (!b1) Hv (fun cg=>Im (Ag s 0))<|hk0) (vk 3 6 (a:=.bool (decide (s=[]))) (b:=.bool b1) (Imp.of_eq (by rw[hb1]))<|v0) (cc 4 (p:=((!b1)=true→((!b1)=true)∧(0≤(0:Int)∧0 < s.length))) qh1<|cc 5 (p:=(!b1)=true→(!b1)=true) (by simp)<|cc 6 (p:=(b1=false→(!b1)=true)) (by simp)<|c0) ?_
 refine Be (q:=b1||(A9 (Ag s 0))) (by kernel_rfl) (fun c1=>?_) (fun c1=>?_)
 ·subst hb1
  try simp only[Ao] at c1
  refine Aa [] [2] ?_
  refine Ac ?_
  refine RK wR [(.int .i64 0)] ?_
  refine Same.of_eq ?_
  simp only[Ai]
  congr 1
  unfold C3
  rw[if_pos c1]
 ·subst hb1
  try simp only[Ao] at c1
  have qh2:((0≤(0:Int)∧0 < s.length)):=by
   rcases hp with hp|hp<;>first|(simp_all;done)|omega|(simp_all;omega)|(simp;omega)
  refine Ae [] [0,11] [] hk0 v0 (cc 1 (p:=(0≤(0:Int)∧0 < s.length)) qh2<|c0) ?_
  refine Ba (p:=((Ag s 0).toNat:Int)=126) (by kernel_rfl) (fun c2=>?_) (fun c2=>?_)
  ·refine Aa [] [2] ?_
   refine Ac ?_
   refine RK wR [(.int .i64 (-1))] ?_
   refine Same.of_eq ?_
   simp only[Ai]
   congr 1
   unfold C3
   rw[if_neg (by simp_all),if_pos (by omega)]
  ·have qh3 : ((0 ≤ (0 : Int) ∧ 0 < s.length)) := by
    rcases hp with hp|hp<;>first|(simp_all;done)|omega|(simp_all;omega)|(simp;omega)
   refine Ae [] [0,15] [] (hk 2 L4 (M3 (Ag s 0))<|hk0) v0 (cc 1 (p:=(0≤(0:Int)∧0 < s.length)) qh3<|c0) ?_
   refine Be (q:=Bx (Ag s 0)) (by kernel_rfl) (fun c3=>?_) (fun c3=>?_)
   ·try simp only[Ao] at c3
    have qh4:((0≤(0:Int)∧0 < s.length))∧((-9223372036854775808≤((Ag s 0).toNat:Int)∧((Ag s 0).toNat:Int)≤9223372036854775807)):=by
     rcases hp with hp|hp<;>first|(simp_all;done)|omega|(simp_all;omega)|(simp;omega)
    refine Ae [] [2] [] hk0 v0 (cc 1 (p:=(0≤(0:Int)∧0 < s.length)) qh4.1<|cc 2 (p:=(-9223372036854775808≤((Ag s 0).toNat:Int)∧((Ag s 0).toNat:Int)≤9223372036854775807)) qh4.2<|c0) ?_
    refine Ac ?_
    refine RK wR [(.int .i64 (((Ag s 0).toNat:Int)))] ?_
    refine Same.of_eq ?_
    simp only[Ai]
    congr 1
    unfold C3
    rw[if_neg (by simp_all),if_neg (by omega),if_pos (by assumption)]
   ·try simp only[Ao] at c3
    refine Ah ?_
    have qh5:((0≤(0:Int)∧0 < s.length))∧((-9223372036854775808≤((Ag s 0).toNat:Int)∧((Ag s 0).toNat:Int)≤9223372036854775807))∧((-9223372036854775808≤256+((Ag s 0).toNat:Int)∧256+((Ag s 0).toNat:Int)≤9223372036854775807)):=by
     rcases hp with hp|hp<;>first|(simp_all;done)|omega|(simp_all;omega)|(simp;omega)
    refine Ae [] [2] [] hk0 v0 (cc 1 (p:=(0≤(0:Int)∧0 < s.length)) qh5.1<|cc 2 (p:=(-9223372036854775808≤((Ag s 0).toNat:Int)∧((Ag s 0).toNat:Int)≤9223372036854775807)) qh5.2.1<|cc 3 (p:=(-9223372036854775808≤256+((Ag s 0).toNat:Int)∧256+((Ag s 0).toNat:Int)≤9223372036854775807)) qh5.2.2<|c0) ?_
    refine Ac ?_
    refine RK wR [(.int .i64 (256+((Ag s 0).toNat:Int)))] ?_
    refine Same.of_eq ?_
    simp only[Ai]
    congr 1
    unfold C3
    rw[if_neg (by simp_all),if_neg (by omega),if_neg (by simp_all)]
end Sv
end
section
open Go Go.RowKit
namespace Sv
theorem Uk (s:List UInt8) (c:UInt8) (hc:c.toNat < 128):FnV Tryz.prog 153 [.str s,.str [c]] (.str (Lib.trimLeftB s c)):=by
  intro F w vs hF hv
  obtain⟨v,r1,rfl,h1,hv⟩:=hv.cons_inv
  obtain⟨v2,rfl,h2⟩:=hv.single_inv
  simp only[VR] at h1 h2
  subst h1 h2
  refine(Tryz.strings_TrimLeft_one ⟨s.toArray⟩ c hc w).mono ?_
  rintro e w' ⟨he,rfl⟩
  exact⟨_,he,Below.refl _ _,F,fun _ _ e=>e,hF,fun _ _ e => .inl e,by simp only[VR,List.toList_toArray]⟩
theorem Q3h (a b:List UInt8):FnV Tryz.prog 214 [.str a,.str b] (.int .i64 (Lib.compareBytes a b)):=by
  intro F w vs hF hv
  obtain⟨v,r1,rfl,h1,hv⟩:=hv.cons_inv
  obtain⟨v2,rfl,h2⟩:=hv.single_inv
  simp only[VR] at h1 h2
  subst h1 h2
  refine(Tryz.strings_Compare ⟨a.toArray⟩ ⟨b.toArray⟩ w).mono ?_
  rintro e w' ⟨he,rfl⟩
  exact⟨_,he,Below.refl _ _,F,fun _ _ e=>e,hF,fun _ _ e => .inl e,by simp only[VR,List.toList_toArray]⟩
end Sv
end
section
open Go Go.RowKit
namespace Sv
attribute [local irreducible] SW SO Bh
set_option maxHeartbeats 1000000
set_option maxRecDepth 100000
theorem FnV.of_plain {P:Program} {f:Nat} {al:List AV} {r:AV} (vs0:List Value) (rv:Value) (ha:∀F vs,VRl (ofF F) al vs→vs=vs0) (hr:∀F,VR (ofF F) r rv) (h:∀w:World,Calls P f vs0.toArray w (Ret fun v w'=>v=rv∧Below w.heap.size w w')):FnV P f al r:=by
 intro F w vs hF hv
 rw[ha F vs hv]
 refine(h w).mono ?_
 rintro e w' ⟨v,he,rfl,hb⟩
 exact⟨_,he,hb,F,fun _ _ e=>e,fun b o e=>(hb.block b (C9 (hF b o e))).trans (hF b o e),fun _ _ e => .inl e,hr F⟩
theorem R9 {P:Program} {f:Nat} {vs:Array Value} {w:World} {rv:Value} (h:Calls P f vs w (Ret fun v w'=>v=rv∧w=w')):Calls P f vs w (Ret fun v w'=>v=rv∧Below w.heap.size w w') :=
 h.mono fun e w' hh=>by
  obtain⟨v,he,h1,rfl⟩:=hh
  exact⟨v,he,h1,Below.refl _ _⟩
theorem Oh {F:Nat→Option Obj} {a b:AV} {x y:Value} (ha:∀F v,VR (ofF F) a v→v=x) (hb:∀F v,VR (ofF F) b v→v=y) {vs:List Value} (h:VRl (ofF F) [a,b] vs):vs=[x,y]:=by
 obtain⟨v,r1,rfl,h1,hv⟩:=h.cons_inv
 obtain⟨v2,rfl,h2⟩:=hv.single_inv
 rw[ha _ _ h1,hb _ _ h2]
theorem K5 {l:List UInt8}:∀F v,VR (ofF F) (.str l) v→v=Go.Proofs.YtlamaeednbhjdaaGreatDoor.S l:=fun F v h=>by simpa only [VR] using h
theorem Y1 {k:IntKind} {n:Int}:∀F v,VR (ofF F) (.int k n) v→v = .int k n:=fun F v h=>by simpa only [VR] using h
theorem X7e (l:List UInt8) (c:UInt8):FnV Tryz.prog 129 [.str l,.int .u8 (c.toNat:Int)] (.int .i64 (Lib.indexByte l c)) :=
 FnV.of_plain [S l,.int .u8 (c.toNat:Int)] (.int .i64 (Lib.indexByte l c)) (fun _ _ h=>Oh K5 Y1 h) (fun _=>by simp only[VR]) fun w=>R9 (X7d l c w)
theorem X7b (l:List UInt8) (hl:l.length≤9223372036854775807):FnV Tryz.prog 132 [.str l,.int .u8 45] (.int .i64 (Bp l 45 l.length)) :=
 FnV.of_plain [S l,.int .u8 45] (.int .i64 (Bp l 45 l.length)) (fun _ _ h=>Oh K5 Y1 h) (fun _=>by simp only[VR]) fun w=>R9 (X7a l 45 w hl)
theorem X7p (l:List UInt8):FnV Tryz.prog 97 [.str l,.str [58]] (.bool (l.contains 58)) :=
 FnV.of_plain [S l,S [58]] (.bool (l.contains 58)) (fun _ _ h=>Oh K5 K5 h) (fun _=>by simp only[VR]) fun w=>R9 (X7o l 58 w)
theorem X7n (l:List UInt8) (hl:l.length≤9223372036854775807):FnV Tryz.prog 131 [.str l,.str [58]] (.tup [.str (if 0≤Lib.indexByte l 58 then l.take (Lib.indexByte l 58).toNat else l),.str (if 0≤Lib.indexByte l 58 then l.drop ((Lib.indexByte l 58).toNat+1) else []),.bool (decide (0≤Lib.indexByte l 58))]):=by
 refine FnV.of_plain [S l,S [58]] (Hw l 58) (fun _ _ h=>Oh K5 K5 h) (fun F=>?_) fun w=>?_
 ·unfold Hw
  by_cases h:0≤Lib.indexByte l 58
  ·rw[if_pos h,if_pos h,if_pos h,decide_eq_true h]
   simp only[VR];exact⟨_,.cons (by simp only[VR]) (.cons (by simp only[VR]) (.cons (by simp only[VR]) .nil)),rfl⟩
  ·rw[if_neg h,if_neg h,if_neg h,decide_eq_false h]
   simp only[VR];exact⟨_,.cons (by simp only[VR]) (.cons (by simp only[VR]) (.cons (by simp only[VR]) .nil)),rfl⟩
 ·exact X7m l 58 w hl
theorem Q8z (r:List UInt8) (c:UInt8) : -1≤Bp r c r.length∧Bp r c r.length < r.length:=by
 rcases Yp r c r.length with h|⟨q,h,hq⟩<;>omega
theorem Qa {l r ep v rl : List UInt8} (hh : Fl l = true) (hr : r = (if 0 ≤ Lib.indexByte l 58 then l.drop ((Lib.indexByte l 58).toNat + 1) else l)) (he : ep = (if 0 ≤ Lib.indexByte l 58 then l.take (Lib.indexByte l 58).toNat else [])) (hd : 0 ≤ Lib.indexByte l 58 → Fm (l.take (Lib.indexByte l 58).toNat) = true)
  (hv:v=(if 0≤Bp r 45 r.length then r.take (Bp r 45 r.length).toNat else r)) (hrl:rl=(if 0≤Bp r 45 r.length then r.drop ((Bp r 45 r.length).toNat+1) else [])) (hn:0≤Bp r 45 r.length→¬rl=[]):Bv l=(if v=[]∨r.contains 58=true then 30 else 0)∧Nj l=(ep,v,rl):=by
 constructor
 ·have ht : Hu l = Kl r := by
   unfold Hu
   rw[hh,Bool.true_and]
   by_cases h:0≤Lib.indexByte l 58
   ·rw[if_pos h,hd h,Bool.true_and,hr,if_pos h]
   ·rw[if_neg h,hr,if_neg h]
  have ht2:Kl r = !(decide (v=[])||r.contains 58):=by
   unfold Kl
   by_cases h:0≤Bp r 45 r.length
   ·have:=hn h
    rw[if_pos h] at hv hrl ⊢
    rw[←hrl,←hv,decide_eq_false this,Bool.not_or];rfl
   ·rw[if_neg h] at hv ⊢
    rw[hv,Bool.not_or]
  unfold Bv
  rw[ht,ht2]
  by_cases h1:v=[]<;>by_cases h2:r.contains 58=true<;>simp[h1,h2]
 ·unfold Nj
  simp only[←hr]
  rw[←he,←hv,←hrl]
theorem Q8o (c : UInt8) :
  FnV Tryz.prog 126 [(.int .u8 ((c.toNat:Int)))] (.bool (Ec c)):=by
 refine A1 [.tmp 2] Tryz.func126 rfl Tryz.ntmps126 rfl rfl (fun B F hF=>?_)
 refine Aa [] [0] ?_
 obtain⟨b1,hb1⟩:∃b,b=((A9 c)||(Bx c)):=⟨_,rfl⟩
 refine Ae (CS:=[(4,(!(A9 c))=true→(!(A9 c))=true),(5,((A9 c)=false→(!(A9 c))=true)),(8,(!b1)=true→(!b1)=true),(9,((!b1)=true→(!b1)=true)),(10,(b1=false→(!b1)=true))]) [6,10,12] [2] [] (hk 1 Hv (Im c)<|hkg 4 (!(A9 c)) L4 (fun cg=>M3 c)<|hkg 8 (!b1) X2p (fun cg=>X7e midL c)<|hk0) (vk 7 9 (a:=.bool ((A9 c)||(Bx c))) (b:=.bool b1) (Imp.of_eq (by rw[hb1]))<|v0) (by refine cc _ ?_<|cc _ ?_<|cc _ ?_<|cc _ ?_<|cc _ ?_ c0<;>simp) ?_
 refine Ac ?_
 refine RK wR [(.bool (b1||(decide (0≤(Lib.indexByte midL c)))))] ?_
 subst hb1
 refine Same.of_eq ?_
 simp only[Ai]
 rw[Y6,Bool.or_assoc];rfl
theorem X0i {l:List UInt8} (c:(l=[]∨(60:Int) < (l.length:Int))∨¬(Az Ec l:Int)=(l.length:Int)):Bv l=30:=by
 refine Z4 ?_
 unfold Fl
 rcases c with (h|h)|h
 ·rw[h];rfl
 ·rw[decide_eq_false (show ¬l.length≤60 by omega)];simp
 ·rw[show l.all Ec=false from by cases hq:l.all Ec with|false=>rfl|true=>exact absurd ((Qk Ec l).2 hq) h];rfl
theorem X0j {l:List UInt8} (hh:Fl l=true) (h0:0≤Lib.indexByte l 58) (c:(l.take (Lib.indexByte l 58).toNat=[]∨(9:Int) < ((l.take (Lib.indexByte l 58).toNat).length:Int))∨¬(Az A9 (l.take (Lib.indexByte l 58).toNat):Int)=((l.take (Lib.indexByte l 58).toNat).length:Int)):Bv l=30:=by
 have hb:Fm (l.take (Lib.indexByte l 58).toNat)=false:=by
  unfold Fm
  rcases c with (h|h)|h
  ·rw[h];rfl
  ·rw[decide_eq_false (show ¬(l.take (Lib.indexByte l 58).toNat).length≤9 by omega)];simp
  ·rw[show(l.take (Lib.indexByte l 58).toNat).all G6=false from by cases hq:(l.take (Lib.indexByte l 58).toNat).all G6 with|false=>rfl|true=>exact absurd ((Qk G6 _).2 hq) h];rfl
 unfold Bv Hu
 rw[hh,Bool.true_and,if_pos h0,hb];rfl
theorem Z0 {l r:List UInt8} (hh:Fl l=true) (hr:r=(if 0≤Lib.indexByte l 58 then l.drop ((Lib.indexByte l 58).toNat+1) else l)) (hd:0≤Lib.indexByte l 58→Fm (l.take (Lib.indexByte l 58).toNat)=true) (hy:0≤Bp r 45 r.length) (h:r.drop ((Bp r 45 r.length).toNat+1)=[]):Bv l=30:=by
 have ht:Hu l=Kl r:=by
  unfold Hu
  rw[hh,Bool.true_and]
  by_cases h:0≤Lib.indexByte l 58
  ·rw[if_pos h,hd h,Bool.true_and,hr,if_pos h]
  ·rw[if_neg h,hr,if_neg h]
 unfold Bv
 rw[ht]
 unfold Kl
 rw[if_pos hy,h];rfl
theorem Qb (l : List UInt8) (hl : l.length ≤ 4611686018427387904) :
  FnV Tryz.prog 86 [(.str l)] (.tup [.agg [.str (Ce l).1,.str (Ce l).2.1,.str (Ce l).2.2],.int .i64 (Bv l)]):=by
 refine A1 [.cell 2 127,.tmp 3] Tryz.func86 rfl Tryz.ntmps86 rfl rfl (fun B F hF=>?_)
 refine Aa [] [0,2] ?_
 refine Aa [] [0,2,4] ?_
 refine Ab ?_
 obtain⟨b1,hb1⟩:∃b,b=(decide (l=[])):=⟨_,rfl⟩
 obtain⟨b2,hb2⟩:∃b,b=(b1||(decide (60 < (l.length:Int)))):=⟨_,rfl⟩
 refine Ae (CS:=[(4,((!b1)=true→(!b1)=true)),(5,((!b1)=true→(!b1)=true)),(6,(b1=false→(!b1)=true)),(10,(!b2)=true→(!b2)=true∧(!b2)=true),(12,((!b2)=true→(!b2)=true)),(13,((!b2)=true→(!b2)=true∧(!b2)=true)),(14,(b2=false→(!b2)=true))]) [14,15,16,19,20,22,23,24] [0,2,25] [] (hkg 10 (!b2) (al:=[(.str l),(.fn 126 [] [])]) G4 (fun cg=>(Hx l (.fn 126 [] []) Ec (by first|omega|(split<;>simp<;>omega)) (fun c=>FunV.of (by exact X2q) (Q8o c))).of_args (ImpL.cons Imp.refl (ImpL.cons (Imp.clo rfl) ImpL.nil)))<|hk0) (vk 3 13 (a:=.bool (decide (l=[]))) (b:=.bool b1) (Imp.of_eq (by rw[hb1]))<|vk 8 18 (a:=.bool (b1||(decide (60 < (l.length:Int))))) (b:=.bool b2) (Imp.of_eq (by rw[hb2]))<|v0) (by refine cc _ ?_<|cc _ ?_<|cc _ ?_<|cc _ ?_<|cc _ ?_<|cc _ ?_<|cc _ ?_ c0<;>simp) ?_
 refine Be (q:=b2||(!decide ((Az Ec l:Int)=(l.length:Int)))) (by kernel_rfl) (fun c1=>?_) (fun c1=>?_)
 ·subst hb2 hb1
  try simp only[Ao] at c1
  refine Aa [] [2,3] ?_
  refine Ac ?_
  refine RK wR [(.agg [(.str []),(.str []),(.str [])]),(.int .i64 30)] ?_
  refine Same.of_eq ?_
  simp only[Ai]
  have h0:Bv l=30:=X0i c1
  have h1:Ce l=([],[],[]):=Je h0.symm
  rw[h0,h1]
 ·subst hb2 hb1
  try simp only[Ao] at c1
  have hh:Fl l=true:=by
   unfold Fl
   rw[show l.all Ec=true from (Qk Ec l).1 c1.2,decide_eq_true (show 1≤l.length by have:=List.length_pos_iff.2 c1.1.1;omega),decide_eq_true (by omega)];rfl
  refine Ah ?_
  refine Aa [] [0,2,5] ?_
  refine Aa [] [0,2,5,6] ?_
  refine Db (fun y=>∃(r:List UInt8) (ep:List UInt8),r=(if 0≤Lib.indexByte l 58 then l.drop ((Lib.indexByte l 58).toNat+1) else l)∧ep=(if 0≤Lib.indexByte l 58 then l.take (Lib.indexByte l 58).toNat else [])∧(0≤Lib.indexByte l 58→Fm (l.take (Lib.indexByte l 58).toNat)=true)∧y=⟨[(2,(.ptr 0 0)),(5,(.ptr 1 0)),(6,(.str r))],[(0,(.row [(.str []),(.str []),(.str [])] 127)),(1,(.row [(.str ep),(.str []),(.str [])] 127))],2⟩) [2,5,6] 2 (by omega) ?_ ?_
  ·refine Ae [] [2,5,6,7,8,9] [] (hk 1 X2o (X7n l (by omega))<|hk0) v0 c0 ?_
   refine Aa [] [2,5,6,7,8,34] ?_
   refine Ba (p:=0≤Lib.indexByte l 58) (by kernel_rfl) (fun c2=>?_) (fun c2=>?_)
   ·refine Ab ?_
    obtain⟨b3,hb3⟩:∃b,b=(decide ((if 0≤Lib.indexByte l 58 then l.take (Lib.indexByte l 58).toNat else l)=[])):=⟨_,rfl⟩
    obtain⟨b4,hb4⟩:∃b,b=(b3||(decide (9 < ((if 0≤Lib.indexByte l 58 then l.take (Lib.indexByte l 58).toNat else l).length:Int)))):=⟨_,rfl⟩
    refine Ae (CS:=[(4,((!b3)=true→(!b3)=true)),(5,((!b3)=true→(!b3)=true)),(6,(b3=false→(!b3)=true)),(9,(!b4)=true→(!b4)=true),(11,((!b4)=true→(!b4)=true)),(12,((!b4)=true→(!b4)=true∧(!b4)=true)),(13,(b4=false→(!b4)=true))]) [38,39,40,43,45,46,47] [2,5,7,8,48] [] (hkg 9 (!b4) (al:=[(.str ((if 0≤Lib.indexByte l 58 then l.take (Lib.indexByte l 58).toNat else l))),(.fn 127 [] [])]) G4 (fun cg=>(Hx (if 0≤Lib.indexByte l 58 then l.take (Lib.indexByte l 58).toNat else l) (.fn 127 [] []) A9 (by first|omega|(split<;>simp<;>omega)) (fun c=>FunV.of (by exact Hv) (Im c))).of_args (ImpL.cons Imp.refl (ImpL.cons (Imp.clo rfl) ImpL.nil)))<|hk0) (vk 3 37 (a:=.bool (decide ((if 0≤Lib.indexByte l 58 then l.take (Lib.indexByte l 58).toNat else l)=[]))) (b:=.bool b3) (Imp.of_eq (by rw[hb3]))<|vk 7 41 (a:=.bool (b3||(decide (9 < ((if 0≤Lib.indexByte l 58 then l.take (Lib.indexByte l 58).toNat else l).length:Int))))) (b:=.bool b4) (Imp.of_eq (by rw[hb4]))<|v0) (by refine cc _ ?_<|cc _ ?_<|cc _ ?_<|cc _ ?_<|cc _ ?_<|cc _ ?_<|cc _ ?_ c0<;>simp) ?_
    refine Be (q:=b4||(!decide ((Az A9 (if 0≤Lib.indexByte l 58 then l.take (Lib.indexByte l 58).toNat else l):Int)=((if 0≤Lib.indexByte l 58 then l.take (Lib.indexByte l 58).toNat else l).length:Int)))) (by kernel_rfl) (fun c3=>?_) (fun c3=>?_)
    ·subst hb4 hb3
     try simp only[Ao] at c3
     refine Aa [] [2,3] ?_
     refine Ac ?_
     refine RK wR [(.agg [(.str []),(.str []),(.str [])]),(.int .i64 30)] ?_
     refine Same.of_eq ?_
     simp only[Ai]
     have h0:Bv l=30:=X0j hh c2 (by rw[if_pos c2] at c3;exact c3)
     have h1:Ce l=([],[],[]):=Je h0.symm
     rw[h0,h1]
    ·subst hb4 hb3
     try simp only[Ao] at c3
     have hdg:Fm (l.take (Lib.indexByte l 58).toNat)=true:=by
      rw[if_pos c2] at c3
      unfold Fm
      rw[show(l.take (Lib.indexByte l 58).toNat).all G6=true from (Qk G6 _).1 c3.2,decide_eq_true (show 1≤_ by have:=List.length_pos_iff.2 c3.1.1;omega),decide_eq_true (by omega)];rfl
     refine Ah ?_
     refine Ar ?_
     refine Ez [] [2,5,6] ?_
     refine⟨by kernel_rfl,(if 0≤Lib.indexByte l 58 then l.drop ((Lib.indexByte l 58).toNat+1) else []),(if 0≤Lib.indexByte l 58 then l.take (Lib.indexByte l 58).toNat else l),?_,?_,?_,(by kernel_rfl)⟩
     ·simp only[if_pos c2]
     ·simp only[if_pos c2]
     ·exact fun _=>hdg
   ·refine Ah ?_
    refine⟨by kernel_rfl,l,[],?_,?_,?_,(by kernel_rfl)⟩
    ·simp only[if_neg c2]
    ·simp only[if_neg c2]
    ·exact fun h=>absurd h c2
  ·rintro y1 ⟨r,ep,hr,hep,hdg,rfl⟩
   have hrl:r.length≤l.length:=by rw[hr];split<;>simp
   have hyb:=Q8z r 45
   have hi58:=Y5 l 58
   refine Aa [] [2,5,6] ?_
   refine Db (fun y=>∃(v:List UInt8) (rl:List UInt8),v=(if 0≤Bp r 45 r.length then r.take (Bp r 45 r.length).toNat else r)∧rl=(if 0≤Bp r 45 r.length then r.drop ((Bp r 45 r.length).toNat+1) else [])∧(0≤Bp r 45 r.length→¬rl=[])∧y=⟨[(2,(.ptr 0 0)),(5,(.ptr 1 0)),(6,(.str r))],[(0,(.row [(.str []),(.str []),(.str [])] 127)),(1,(.row [(.str ep),(.str v),(.str rl)] 127))],2⟩) [2,5,6] 2 (by omega) ?_ ?_
   ·refine Ae [] [2,5,6,10] [] (hk 1 X2n (X7b r (by omega))<|hk0) v0 c0 ?_
    refine Aa [] [2,5,6,10,58] ?_
    refine Ba (p:=0≤(Bp r 45 r.length)) (by kernel_rfl) (fun c4=>?_) (fun c4=>?_)
    ·refine Cv (CS:=[(2,(0≤(0:Int)∧(0:Int)≤Bp r 45 r.length∧Bp r 45 r.length≤(r.length:Int))),(5,(-9223372036854775808≤(Bp r 45 r.length)+1∧(Bp r 45 r.length)+1≤9223372036854775807)),(6,(0≤(Bp r 45 r.length)+1∧(Bp r 45 r.length)+1≤(r.length:Int)∧(r.length:Int)≤(r.length:Int)))]) [] [2,5,6] [] hk0 v0 (by refine cc _ ?_<|cc _ ?_<|cc _ ?_ c0<;>omega) ?_
     refine Aa [] [2,5,6,70] ?_
     refine Ba (p:=(r.take r.length).drop (((Bp r 45 r.length)+1).toNat)=[]) (by kernel_rfl) (fun c5=>?_) (fun c5=>?_)
     ·refine Aa [] [2,3] ?_
      refine Ac ?_
      refine RK wR [(.agg [(.str []),(.str []),(.str [])]),(.int .i64 30)] ?_
      refine Same.of_eq ?_
      simp only[Ai]
      have h0:Bv l=30:=Z0 hh hr hdg c4 (by have h:=c5;rw[List.take_length] at h;rw[←h];congr 1;omega)
      have h1:Ce l=([],[],[]):=Je h0.symm
      rw[h0,h1]
     ·refine Ah ?_
      refine⟨by kernel_rfl,((r.take ((Bp r 45 r.length:Int).toNat)).drop 0),((r.take r.length).drop (((Bp r 45 r.length)+1).toNat)),?_,?_,?_,(by kernel_rfl)⟩
      ·rw[if_pos c4];simp
      ·rw[if_pos c4];try rw[List.take_length];congr 1;omega
      ·intro _;exact c5
    ·refine Ah ?_
     refine⟨by kernel_rfl,r,[],?_,?_,?_,(by kernel_rfl)⟩
     ·rw[if_neg c4]
     ·rw[if_neg c4]
     ·exact fun h=>absurd h c4
   ·rintro y2 ⟨v,rl,hv,hrr,hnn,rfl⟩
    refine Ab ?_
    obtain⟨b5,hb5⟩:∃b,b=(decide (v=[])):=⟨_,rfl⟩
    refine Ae (CS:=[(5,(!b5)=true→(!b5)=true),(6,(b5=false→(!b5)=true))]) [76] [2,5,78] [] (hkg 5 (!b5) X0n (fun cg=>X7p r)<|hk0) (vk 4 75 (a:=.bool (decide (v=[]))) (b:=.bool b5) (Imp.of_eq (by rw[hb5]))<|v0) (by refine cc _ ?_<|cc _ ?_ c0<;>simp) ?_
    refine Be (q:=b5||(r.contains 58)) (by kernel_rfl) (fun c6=>?_) (fun c6=>?_)
    ·subst hb5
     try simp only[Ao] at c6
     refine Aa [] [2,3] ?_
     refine Ac ?_
     refine RK wR [(.agg [(.str []),(.str []),(.str [])]),(.int .i64 30)] ?_
     refine Same.of_eq ?_
     simp only[Ai]
     have h0:Bv l=30:=by rw[(Qa hh hr hep hdg hv hrr hnn).1,if_pos (by simpa using c6)]
     have h1:Ce l=([],[],[]):=Je h0.symm
     rw[h0,h1]
    ·subst hb5
     try simp only[Ao] at c6
     refine Ah ?_
     refine Aa [] [2,3] ?_
     refine Ac ?_
     refine RK wR [(.agg [(.str ep),(.str v),(.str rl)]),(.int .i64 0)] ?_
     have hf:=Qa hh hr hep hdg hv hrr hnn
     have h0:Bv l=0:=by rw[hf.1,if_neg (by simpa using c6)]
     exact Same.of_eq (by simp only[Ai];rw[Z2 h0.symm,hf.2,h0])
end Sv
end
section
open Go Go.RowKit
namespace Sv
attribute [local irreducible] SW SO Bh
set_option maxHeartbeats 1000000
set_option maxRecDepth 100000
theorem Q53 (c : UInt8) :
  FnV Tryz.prog 164 [(.int .u8 ((c.toNat:Int)))] (.bool (Bx c)):=by
 refine A1 [.tmp 2] Tryz.func164 rfl Tryz.ntmps164 rfl rfl (fun B F hF=>?_)
 refine Aa [] [0] ?_
 obtain⟨b1,hb1⟩:∃b,b=(decide (97≤(c.toNat:Int))):=⟨_,rfl⟩
 obtain⟨b2,hb2⟩:∃b,b=(b1&&(decide ((c.toNat:Int)≤122))):=⟨_,rfl⟩
 obtain⟨b3,hb3⟩:∃b,b=(b2||((decide (65≤(c.toNat:Int)))&&(decide ((c.toNat:Int)≤90)))):=⟨_,rfl⟩
 refine Ae (CS:=[(4,(b1=true→b1=true)),(5,(b1=true→b1=true)),(8,((!b2)=true→(!b2)=true)),(9,((!b2)=true→(!b2)=true)),(11,(((!b2)&&(decide (65≤(c.toNat:Int))))=true→((!b2)&&(decide (65≤(c.toNat:Int))))=true)),(12,((!b2)=true→((!b2)=true)∧((decide (65≤(c.toNat:Int)))=true→((!b2)&&(decide (65≤(c.toNat:Int))))=true))),(13,(b2=false→(!b2)=true))]) [6,7,10,11,12,13,14,15] [2] [] hk0 (vk 3 5 (a:=.bool (decide (97≤(c.toNat:Int)))) (b:=.bool b1) (Imp.of_eq (by rw[hb1]))<|vk 7 9 (a:=.bool (b1&&(decide ((c.toNat:Int)≤122)))) (b:=.bool b2) (Imp.of_eq (by rw[hb2]))<|vk 14 16 (a:=.bool (b2||((decide (65≤(c.toNat:Int)))&&(decide ((c.toNat:Int)≤90))))) (b:=.bool b3) (Imp.of_eq (by rw[hb3]))<|v0) (by refine cc _ ?_<|cc _ ?_<|cc _ ?_<|cc _ ?_<|cc _ ?_<|cc _ ?_<|cc _ ?_ c0<;>(intros;simp_all;done)) ?_
 refine Ac ?_
 refine RK wR [(.bool b3)] ?_
 subst hb3 hb2 hb1
 refine Same.of_eq ?_
 simp only[Ai]
 congr 1
 unfold Bx
 rw[Bool.eq_iff_iff]
 simp only[Bool.and_eq_true,Bool.or_eq_true,decide_eq_true_eq]
 omega
theorem Wl (c : UInt8) :
  FnV Tryz.prog 165 [(.int .u8 ((c.toNat:Int)))] (.bool (A9 c)):=by
 refine A1 [.tmp 2] Tryz.func165 rfl Tryz.ntmps165 rfl rfl (fun B F hF=>?_)
 refine Aa [] [0] ?_
 obtain⟨b1,hb1⟩:∃b,b=(decide (48≤(c.toNat:Int))):=⟨_,rfl⟩
 refine Ae (CS:=[(4,(b1=true→b1=true)),(5,(b1=true→b1=true))]) [6,7] [2] [] hk0 (vk 3 5 (a:=.bool (decide (48≤(c.toNat:Int)))) (b:=.bool b1) (Imp.of_eq (by rw[hb1]))<|v0) (by refine cc _ ?_<|cc _ ?_ c0<;>simp) ?_
 refine Ac ?_
 refine RK wR [(.bool (b1&&(decide ((c.toNat:Int)≤57))))] ?_
 subst hb1
 refine Same.of_eq ?_
 simp only[Ai]
 congr 1
 unfold A9
 rw[Bool.eq_iff_iff]
 simp only[Bool.and_eq_true,Bool.or_eq_true,decide_eq_true_eq]
 omega
theorem inV (c : UInt8) (l : List UInt8) (hl : l.length ≤ 4611686018427387904) :
  FnV Tryz.prog 137 [(.int .u8 ((c.toNat:Int))),(.str l)] (.bool (l.contains c)):=by
 refine A1 [.tmp 4] Tryz.func137 rfl Tryz.ntmps137 rfl rfl (fun B F hF=>?_)
 refine Aa [] [0,1] ?_
 refine Ab ?_
 refine Aa [] [0,1,5] ?_
 refine Ax ?_
 refine B4 (fun g y=>∃(k:Nat),k≤l.length∧l.contains c=(l.drop k).contains c∧y=⟨[(0,(.int .u8 ((c.toNat:Int)))),(1,(.str l)),(5,(.int .i64 ((k:Int))))],[],0⟩∧g=l.length-k) [0,1,5] 0 _ (by omega) ⟨0,(by omega),(by rfl),(by kernel_rfl),rfl⟩ ?_
 rintro g1 y1 ⟨k,f1_1,f1_2,rfl,rfl⟩
 refine Ab ?_
 refine Aa [] [0,1,5,9] ?_
 refine Ba (p:=(k:Int) < (l.length:Int)) (by kernel_rfl) (fun c1=>?_) (fun c1=>?_)
 ·refine Ah ?_
  refine Ab ?_
  refine Ax ?_
  refine Ae [] [0,1,5,16] [] hk0 v0 (cc 2 (p:=(0≤(k:Int)∧k < l.length)) (by omega)<|c0) ?_
  refine Ba (p:=((Ag l k).toNat:Int)=(c.toNat:Int)) (by kernel_rfl) (fun c2=>?_) (fun c2=>?_)
  ·refine Aa [] [4] ?_
   refine Ac ?_
   refine RK wR [(.bool true)] ?_
   exact Same.of_eq (by rw[f1_2,F3 (by omega),show Ag l k=c from UInt8.toNat_inj.1 (by omega)];simp[Ai])
  ·refine Ah ?_
   refine Ar ?_
   refine Aw 0 [] [0,1,5] [] hk0 v0 (cc 1 (p:=(-9223372036854775808≤(k:Int)+1∧(k:Int)+1≤9223372036854775807)) (by omega)<|c0) ?_
   refine⟨by kernel_rfl,_,?_,k+1,?_,?_,(by kernel_rfl),rfl⟩
   ·omega
   ·omega
   ·rw[f1_2,F3 (by omega),List.contains_cons];have:¬c=Ag l k:=fun e=>c2 (by rw[e]);simp[this]
 ·refine Bq ?_
  refine Aa [] [4] ?_
  refine Ac ?_
  refine RK wR [(.bool false)] ?_
  exact Same.of_eq (by rw[f1_2,List.drop_of_length_le (by omega)];rfl)
theorem Q52 (l : List UInt8) (hl : l.length ≤ 4611686018427387904) :
  FnV Tryz.prog 135 [(.str l)] (.bool (l.all Ec&&(decide (1≤l.length)&&decide (l.length≤60)))):=by
 refine A1 [.tmp 2] Tryz.func135 rfl Tryz.ntmps135 rfl rfl (fun B F hF=>?_)
 refine Aa [] [0] ?_
 refine Ab ?_
 refine Aa [] [0,3] ?_
 refine Ax ?_
 refine B4 (fun g y=>∃(k:Nat),k≤l.length∧(l.take k).all Ec=true∧y=⟨[(0,(.str l)),(3,(.int .i64 ((k:Int))))],[],0⟩∧g=l.length-k) [0,3] 0 _ (by omega) ⟨0,(by omega),(by rfl),(by kernel_rfl),rfl⟩ ?_
 rintro g1 y1 ⟨k,f1_1,f1_2,rfl,rfl⟩
 refine Ab ?_
 refine Aa [] [0,3,9] ?_
 refine Ba (p:=(k:Int) < (l.length:Int)) (by kernel_rfl) (fun c1=>?_) (fun c1=>?_)
 ·refine Ah ?_
  refine Ab ?_
  refine Ax ?_
  refine Ae [] [0,3,4] [] (hk 3 X15 (Q53 (Ag l k))<|hk0) v0 (cc 2 (p:=(0≤(k:Int)∧k < l.length)) (by omega)<|c0) ?_
  refine Ae [] [0,3,4,5] [] (hk 3 Q0q (Wl (Ag l k))<|hk0) v0 (cc 2 (p:=(0≤(k:Int)∧k < l.length)) (by omega)<|c0) ?_
  obtain⟨b1,hb1⟩:∃b,b=(!(Bx (Ag l k))):=⟨_,rfl⟩
  obtain⟨b2,hb2⟩:∃b,b=(b1&&(!(A9 (Ag l k)))):=⟨_,rfl⟩
  refine Ae (CS:=[(4,(b1=true→b1=true)),(5,(b1=true→b1=true)),(9,(b2=true→(b2=true∧b2=true)∧(0≤(k:Int)∧k < l.length))),(10,b2=true→b2=true),(11,(b2=true→b2=true)),(12,(b2=true→b2=true))]) [23,24,27,28,29,31] [0,3,32] [] (hkg 10 b2 Q0v (fun cg=>inV (Ag l k) midL (by decide))<|hk0) (vk 3 22 (a:=.bool (!(Bx (Ag l k)))) (b:=.bool b1) (Imp.of_eq (by rw[hb1]))<|vk 7 26 (a:=.bool (b1&&(!(A9 (Ag l k))))) (b:=.bool b2) (Imp.of_eq (by rw[hb2]))<|v0) (by refine cc _ ?_<|cc _ ?_<|cc _ ?_<|cc _ ?_<|cc _ ?_<|cc _ ?_ c0<;>(intros;simp_all;done)) ?_
  refine Be (q:=b2&&(!(midL.contains (Ag l k)))) (by kernel_rfl) (fun c2=>?_) (fun c2=>?_)
  ·subst hb2 hb1
   try simp only[Ao] at c2
   refine Aa [] [2] ?_
   refine Ac ?_
   refine RK wR [(.bool false)] ?_
   exact Same.of_eq (by simp only[Ai];rw[Q2d (p:=Ec) (k:=k) (by omega) (by show(A9 _||(Bx _||_))=false;simp_all)];rfl)
  ·subst hb2 hb1
   try simp only[Ao] at c2
   refine Ah ?_
   refine Ar ?_
   refine Aw 0 [] [0,3] [] hk0 v0 (cc 1 (p:=(-9223372036854775808≤(k:Int)+1∧(k:Int)+1≤9223372036854775807)) (by omega)<|c0) ?_
   refine⟨by kernel_rfl,_,?_,k+1,?_,?_,(by kernel_rfl),rfl⟩
   ·omega
   ·omega
   ·refine Q2b (by omega) f1_2 ?_
    show(A9 _||(Bx _||_))=true;simp only[Bool.or_eq_true];by_cases a1:A9 (Ag l k)=true<;>by_cases a2:Bx (Ag l k)=true<;>simp_all
 ·refine Bq ?_
  obtain⟨b3,hb3⟩:∃b,b=(decide (1≤(l.length:Int))):=⟨_,rfl⟩
  refine Ae (CS:=[(5,(b3=true→b3=true)),(6,(b3=true→b3=true)),(7,(b3=true→b3=true))]) [37,38,39] [2] [] hk0 (vk 4 36 (a:=.bool (decide (1≤(l.length:Int)))) (b:=.bool b3) (Imp.of_eq (by rw[hb3]))<|v0) (by refine cc _ ?_<|cc _ ?_<|cc _ ?_ c0<;>simp) ?_
  refine Ac ?_
  refine RK wR [(.bool (b3&&(decide ((l.length:Int)≤60))))] ?_
  subst hb3
  have hall:l.all Ec=true:=by rw[List.take_of_length_le (by omega)] at f1_2;exact f1_2
  exact Same.of_eq (by simp only[Ai];rw[hall,show decide ((1:Int)≤(l.length:Int))=decide (1≤l.length) from decide_eq_decide.2 (by omega),show decide ((l.length:Int)≤60)=decide (l.length≤60) from decide_eq_decide.2 (by omega)];rfl)
theorem Q6k (l : List UInt8) (hl : l.length ≤ 4611686018427387904) :
  FnV Tryz.prog 136 [(.str l)] (.bool (Fm l)):=by
 refine A1 [.tmp 2] Tryz.func136 rfl Tryz.ntmps136 rfl rfl (fun B F hF=>?_)
 refine Aa [] [0] ?_
 refine Ab ?_
 refine Aa [] [0,3] ?_
 refine Ax ?_
 refine B4 (fun g y=>∃(k:Nat),k≤l.length∧(l.take k).all G6=true∧y=⟨[(0,(.str l)),(3,(.int .i64 ((k:Int))))],[],0⟩∧g=l.length-k) [0,3] 0 _ (by omega) ⟨0,(by omega),(by rfl),(by kernel_rfl),rfl⟩ ?_
 rintro g1 y1 ⟨k,f1_1,f1_2,rfl,rfl⟩
 refine Ab ?_
 refine Aa [] [0,3,8] ?_
 refine Ba (p:=(k:Int) < (l.length:Int)) (by kernel_rfl) (fun c1=>?_) (fun c1=>?_)
 ·refine Ah ?_
  refine Ab ?_
  refine Ax ?_
  refine Ae [] [0,3,4] [] (hk 3 Q0q (Wl (Ag l k))<|hk0) v0 (cc 2 (p:=(0≤(k:Int)∧k < l.length)) (by omega)<|c0) ?_
  refine Aa [] [0,3,16] ?_
  refine Be (q:=!(A9 (Ag l k))) (by kernel_rfl) (fun c2=>?_) (fun c2=>?_)
  ·try simp only[Ao] at c2
   refine Aa [] [2] ?_
   refine Ac ?_
   refine RK wR [(.bool false)] ?_
   exact Same.of_eq (by simp only[Ai];unfold Fm;rw[Q2d (p:=G6) (k:=k) (by omega) (by show A9 _=false;simp_all)];rfl)
  ·try simp only[Ao] at c2
   refine Ah ?_
   refine Ar ?_
   refine Aw 0 [] [0,3] [] hk0 v0 (cc 1 (p:=(-9223372036854775808≤(k:Int)+1∧(k:Int)+1≤9223372036854775807)) (by omega)<|c0) ?_
   refine⟨by kernel_rfl,_,?_,k+1,?_,?_,(by kernel_rfl),rfl⟩
   ·omega
   ·omega
   ·refine Q2b (by omega) f1_2 ?_
    show A9 _=true;simp_all
 ·refine Bq ?_
  obtain⟨b1,hb1⟩:∃b,b=(decide (1≤(l.length:Int))):=⟨_,rfl⟩
  refine Ae (CS:=[(5,(b1=true→b1=true)),(6,(b1=true→b1=true)),(7,(b1=true→b1=true))]) [21,22,23] [2] [] hk0 (vk 4 20 (a:=.bool (decide (1≤(l.length:Int)))) (b:=.bool b1) (Imp.of_eq (by rw[hb1]))<|v0) (by refine cc _ ?_<|cc _ ?_<|cc _ ?_ c0<;>simp) ?_
  refine Ac ?_
  refine RK wR [(.bool (b1&&(decide ((l.length:Int)≤9))))] ?_
  subst hb1
  have hall:l.all G6=true:=by rw[List.take_of_length_le (by omega)] at f1_2;exact f1_2
  exact Same.of_eq (by simp only[Ai];unfold Fm;rw[hall,show decide ((1:Int)≤(l.length:Int))=decide (1≤l.length) from decide_eq_decide.2 (by omega),show decide ((l.length:Int)≤9)=decide (l.length≤9) from decide_eq_decide.2 (by omega)];rfl)
theorem Wk (l : List UInt8) (hl : l.length ≤ 4611686018427387904) :
  FnV Tryz.prog 91 [(.str l)] (.tup [.agg [.str (Ce l).1,.str (Ce l).2.1,.str (Ce l).2.2],.int .i64 (Bv l)]):=by
 refine A1 [.cell 2 127,.tmp 3] Tryz.func91 rfl Tryz.ntmps91 rfl rfl (fun B F hF=>?_)
 refine Aa [] [0,2] ?_
 refine Ae [] [0,2,4] [] (hk 1 X2l (Q52 l hl)<|hk0) v0 c0 ?_
 refine Ab ?_
 refine Aa [] [0,2,12] ?_
 refine Be (q:=!(Fl l)) (by kernel_rfl) (fun c1=>?_) (fun c1=>?_)
 ·try simp only[Ao] at c1
  refine Aa [] [2,3] ?_
  refine Ac ?_
  refine RK wR [(.agg [(.str []),(.str []),(.str [])]),(.int .i64 30)] ?_
  refine Same.of_eq ?_
  simp only[Ai]
  have h0:Bv l=30:=Z4 (by simpa using c1)
  have h1:Ce l=([],[],[]):=Je h0.symm
  rw[h0,h1]
 ·try simp only[Ao] at c1
  have hh:Fl l=true:=by simpa using c1
  refine Ah ?_
  refine Aa [] [0,2,5] ?_
  refine Db (fun y=>∃(r:List UInt8) (ep:List UInt8),r=(if 0≤Lib.indexByte l 58 then l.drop ((Lib.indexByte l 58).toNat+1) else l)∧ep=(if 0≤Lib.indexByte l 58 then l.take (Lib.indexByte l 58).toNat else [])∧(0≤Lib.indexByte l 58→Fm (l.take (Lib.indexByte l 58).toNat)=true)∧y=⟨[(0,(.str r)),(2,(.ptr 0 0)),(5,(.ptr 1 0))],[(0,(.row [(.str []),(.str []),(.str [])] 127)),(1,(.row [(.str ep),(.str []),(.str [])] 127))],2⟩) [0,2,5] 2 (by omega) ?_ ?_
  ·refine Aa [] [0,2,5,6] ?_
   refine Ax ?_
   refine B4 (fun g y=>∃(i:Nat),i≤l.length∧H2 l 58 i∧y=⟨[(0,(.str l)),(2,(.ptr 0 0)),(5,(.ptr 1 0)),(6,(.int .i64 ((i:Int))))],[(0,(.row [(.str []),(.str []),(.str [])] 127)),(1,(.row [(.str []),(.str []),(.str [])] 127))],2⟩∧g=l.length-i) [0,2,5,6] 2 _ (by omega) ⟨0,(by omega),(by exact Q9j l 58),(by kernel_rfl),rfl⟩ ?_
   rintro g1 y1 ⟨i,f1_1,f1_2,rfl,rfl⟩
   refine Ab ?_
   refine Aa [] [0,2,5,6,17] ?_
   refine Ba (p:=(i:Int) < (l.length:Int)) (by kernel_rfl) (fun c2=>?_) (fun c2=>?_)
   ·refine Ah ?_
    refine Ab ?_
    refine Ax ?_
    refine Ab ?_
    refine Ae [] [0,2,5,6,23] [] hk0 v0 (cc 2 (p:=(0≤(i:Int)∧i < l.length)) (by omega)<|c0) ?_
    refine Dh (p:=((Ag l i).toNat:Int)=58) (by kernel_rfl) (fun c3=>?_) (fun c3=>?_)
    ·refine Bq ?_
     refine Ar ?_
     refine Aw 0 [] [0,2,5,6] [] hk0 v0 (cc 1 (p:=(-9223372036854775808≤(i:Int)+1∧(i:Int)+1≤9223372036854775807)) (by omega)<|c0) ?_
     refine⟨by kernel_rfl,_,?_,i+1,?_,?_,(by kernel_rfl),rfl⟩
     ·omega
     ·omega
     ·exact Q9i f1_2 (by omega) (fun e=>by rw[e] at c3;simp at c3)
    ·refine Ah ?_
     refine Ae [] [0,2,5,6,7] [] (hk 3 X2k (Q6k ((l.take i).drop 0) (by simp;omega))<|hk0) v0 (cc 2 (p:=(0≤(0:Int)∧(0:Int)≤(i:Int)∧(i:Int)≤(l.length:Int))) (by omega)<|c0) ?_
     refine Ab ?_
     refine Aa [] [0,2,5,6,29] ?_
     refine Be (q:=!(Fm ((l.take i).drop 0))) (by kernel_rfl) (fun c4=>?_) (fun c4=>?_)
     ·try simp only[Ao] at c4
      refine Aa [] [2,3] ?_
      refine Ac ?_
      refine RK wR [(.agg [(.str []),(.str []),(.str [])]),(.int .i64 30)] ?_
      refine Same.of_eq ?_
      simp only[Ai]
      have h0:Bv l=30:=X0k (Y8 f1_2 (by omega) (UInt8.toNat_inj.1 (by show _=58;omega))) (by simpa using c4)
      have h1:Ce l=([],[],[]):=Je h0.symm
      rw[h0,h1]
     ·try simp only[Ao] at c4
      refine Ah ?_
      refine Ae [] [0,2,5,6] [] hk0 v0 (cc 2 (p:=(0≤(0:Int)∧(0:Int)≤(i:Int)∧(i:Int)≤(l.length:Int))) (by omega)<|c0) ?_
      refine Ae (CS:=[(2,(-9223372036854775808≤(i:Int)+1∧(i:Int)+1≤9223372036854775807)),(3,(0≤(i:Int)+1∧(i:Int)+1≤(l.length:Int)∧(l.length:Int)≤(l.length:Int)))]) [] [0,2,5] [] hk0 v0 (by refine cc _ ?_<|cc _ ?_ c0<;>omega) ?_
      refine Bq ?_
      refine⟨by kernel_rfl,((l.take l.length).drop (i+1)),((l.take i).drop 0),?_,?_,?_,(by kernel_rfl)⟩
      all_goals have hz:Lib.indexByte l 58=(i:Int):=Y8 f1_2 (by omega) (UInt8.toNat_inj.1 (by show _=58;omega))
      all_goals rw[hz]
      ·rw[if_pos (by omega),List.take_length,Int.toNat_natCast];try (congr 1;omega)
      ·rw[if_pos (by omega),Int.toNat_natCast];simp
      ·intro _;rw[Int.toNat_natCast];simpa using c4
   ·refine Bq ?_
    refine⟨by kernel_rfl,l,[],?_,?_,?_,(by kernel_rfl)⟩
    all_goals have hz:Lib.indexByte l 58 = -1:=Q9k f1_2 (by omega)
    all_goals rw[hz]
    ·rw[if_neg (by omega)]
    ·rw[if_neg (by omega)]
    ·intro h;exact absurd h (by omega)
  ·rintro y1 ⟨r,ep,hr,hep,hdg,rfl⟩
   have hrl:r.length≤l.length:=by rw[hr];split<;>simp
   refine Aa [] [0,2,5] ?_
   refine Db (fun y=>∃(v:List UInt8) (rl:List UInt8),v=(if 0≤Bp r 45 r.length then r.take (Bp r 45 r.length).toNat else r)∧rl=(if 0≤Bp r 45 r.length then r.drop ((Bp r 45 r.length).toNat+1) else [])∧(0≤Bp r 45 r.length→¬rl=[])∧y=⟨[(0,(.str r)),(2,(.ptr 0 0)),(5,(.ptr 1 0))],[(0,(.row [(.str []),(.str []),(.str [])] 127)),(1,(.row [(.str ep),(.str v),(.str rl)] 127))],2⟩) [0,2,5] 2 (by omega) ?_ ?_
   ·refine Ae [] [0,2,5,8] [] hk0 v0 (cc 2 (p:=(-9223372036854775808≤(r.length:Int)-1∧(r.length:Int)-1≤9223372036854775807)) (by omega)<|c0) ?_
    refine Ax ?_
    refine B4 (fun g y=>∃(k:Nat),k≤r.length∧Bp r 45 r.length=Bp r 45 k∧y=⟨[(0,(.str r)),(2,(.ptr 0 0)),(5,(.ptr 1 0)),(8,(.int .i64 ((k:Int)-1)))],[(0,(.row [(.str []),(.str []),(.str [])] 127)),(1,(.row [(.str ep),(.str r),(.str [])] 127))],2⟩∧g=k+1) [0,2,5,8] 2 _ (by omega) ⟨r.length,(by omega),(by rfl),(by kernel_rfl),rfl⟩ ?_
    rintro g2 y2 ⟨k,f2_1,f2_2,rfl,rfl⟩
    refine Ab ?_
    refine Aa [] [0,2,5,8,45] ?_
    refine Ba (p:=0≤((k:Int)-1)) (by kernel_rfl) (fun c5=>?_) (fun c5=>?_)
    ·refine Ah ?_
     refine Ab ?_
     refine Ax ?_
     refine Ae [] [0,2,5,8,51] [] hk0 v0 (cc 2 (p:=(0≤(k:Int)-1∧((k:Int)-1).toNat < r.length)) (by omega)<|c0) ?_
     refine Ba (p:=((Ag r (((k:Int)-1).toNat)).toNat:Int)=45) (by kernel_rfl) (fun c6=>?_) (fun c6=>?_)
     ·have hk1:((k:Int)-1).toNat=k-1:=by omega
      rw[hk1] at c6
      refine Ae [] [0,2,5,8] [] hk0 v0 (cc 2 (p:=(0≤(0:Int)∧(0:Int)≤(k:Int)-1∧(k:Int)-1≤(r.length:Int))) (by omega)<|c0) ?_
      refine Ae (CS:=[(2,(-9223372036854775808≤((k:Int)-1)+1∧((k:Int)-1)+1≤9223372036854775807)),(3,(0≤((k:Int)-1)+1∧((k:Int)-1)+1≤(r.length:Int)∧(r.length:Int)≤(r.length:Int)))]) [] [0,2,5] [] hk0 v0 (by refine cc _ ?_<|cc _ ?_ c0<;>omega) ?_
      refine Ab ?_
      refine Aa [] [0,2,5,63] ?_
      refine Ba (p:=(r.take r.length).drop ((((k:Int)-1)+1).toNat)=[]) (by kernel_rfl) (fun c7=>?_) (fun c7=>?_)
      ·refine Aa [] [2,3] ?_
       refine Ac ?_
       refine RK wR [(.agg [(.str []),(.str []),(.str [])]),(.int .i64 30)] ?_
       refine Same.of_eq ?_
       simp only[Ai]
       have h0:Bv l=30:=by
        have hy:Bp r 45 r.length=((k-1:Nat):Int):=by rw[f2_2,M4 (by omega),if_pos (UInt8.toNat_inj.1 (by show _=45;omega))]
        exact Z0 hh hr hdg (by omega) (by rw[hy,Int.toNat_natCast,←c7];simp;congr 1;omega)
       have h1:Ce l=([],[],[]):=Je h0.symm
       rw[h0,h1]
      ·refine Ah ?_
       refine Bq ?_
       refine⟨by kernel_rfl,((r.take (((k:Int)-1).toNat)).drop 0),((r.take r.length).drop ((((k:Int)-1)+1).toNat)),?_,?_,?_,(by kernel_rfl)⟩
       all_goals have hy:Bp r 45 r.length=((k-1:Nat):Int):=by rw[f2_2,M4 (by omega),if_pos (UInt8.toNat_inj.1 (by show _=45;omega))]
       all_goals rw[hy]
       ·rw[if_pos (by omega),Int.toNat_natCast];simp;try (congr 1;omega)
       ·rw[if_pos (by omega),Int.toNat_natCast];simp;try (congr 1;omega)
       ·exact fun _=>c7
     ·have hk1:((k:Int)-1).toNat=k-1:=by omega
      rw[hk1] at c6
      refine Ah ?_
      refine Ar ?_
      refine Aw 0 [] [0,2,5,8] [] hk0 v0 (cc 1 (p:=(-9223372036854775808≤((k:Int)-1)-1∧((k:Int)-1)-1≤9223372036854775807)) (by omega)<|c0) ?_
      refine⟨by kernel_rfl,_,?_,(k-1),?_,?_,(Eq.trans (b:=(⟨[(0,(.str r)),(2,(.ptr 0 0)),(5,(.ptr 1 0)),(8,(.int .i64 (((k:Int)-1)-1)))],[(0,(.row [(.str []),(.str []),(.str [])] 127)),(1,(.row [(.str ep),(.str r),(.str [])] 127))],2⟩:St)) (by kernel_rfl) (by rw[show(k:Int)-1-1=((k-1:Nat):Int)-1 from by omega])),rfl⟩
      ·omega
      ·omega
      ·rw[f2_2,M4 (by omega),if_neg (fun e=>c6 (by rw[e];rfl))]
    ·refine Bq ?_
     refine⟨by kernel_rfl,r,[],?_,?_,?_,(by kernel_rfl)⟩
     all_goals have hy:Bp r 45 r.length = -1:=by rw[f2_2,show k=0 by omega];rfl
     all_goals rw[hy]
     ·rw[if_neg (by omega)]
     ·rw[if_neg (by omega)]
     ·intro h;exact absurd h (by omega)
   ·rintro y2 ⟨v,rl,hv,hrr,hnn,rfl⟩
    refine Ab ?_
    obtain⟨b1,hb1⟩:∃b,b=(decide (v=[])):=⟨_,rfl⟩
    refine Ae (CS:=[(5,(!b1)=true→(!b1)=true),(6,(b1=false→(!b1)=true))]) [69] [2,5,71] [] (hkg 5 (!b1) Q0v (fun cg=>inV 58 r (by omega))<|hk0) (vk 4 68 (a:=.bool (decide (v=[]))) (b:=.bool b1) (Imp.of_eq (by rw[hb1]))<|v0) (by refine cc _ ?_<|cc _ ?_ c0<;>simp) ?_
    refine Be (q:=b1||(r.contains 58)) (by kernel_rfl) (fun c8=>?_) (fun c8=>?_)
    ·subst hb1
     try simp only[Ao] at c8
     refine Aa [] [2,3] ?_
     refine Ac ?_
     refine RK wR [(.agg [(.str []),(.str []),(.str [])]),(.int .i64 30)] ?_
     refine Same.of_eq ?_
     simp only[Ai]
     have h0:Bv l=30:=by rw[(Qa hh hr hep hdg hv hrr hnn).1,if_pos (by simpa using c8)]
     have h1:Ce l=([],[],[]):=Je h0.symm
     rw[h0,h1]
    ·subst hb1
     try simp only[Ao] at c8
     refine Ah ?_
     refine Aa [] [2,3] ?_
     refine Ac ?_
     refine RK wR [(.agg [(.str ep),(.str v),(.str rl)]),(.int .i64 0)] ?_
     have hf:=Qa hh hr hep hdg hv hrr hnn
     have h0:Bv l=0:=by rw[hf.1,if_neg (by simpa using c8)]
     exact Same.of_eq (by simp only[Ai];rw[Z2 h0.symm,hf.2,h0])
end Sv
end
section
open Go Go.RowKit
structure PkgT where
  name:List UInt8
  evr:List UInt8
  arch:List UInt8
  vendor:List UInt8
  provides:List DepT
  requires:List DepT
  pre:List DepT
  conflicts:List DepT
  obsoletes:List DepT
  recommends:List DepT
  supplements:List DepT
  files:List (List UInt8)
  deriving Inhabited
structure RepoT where
  name:List UInt8
  prio:Int
  inst:Bool
  pkgs:List PkgT
  deriving Inhabited
def PkgT.depSize (p:PkgT):Nat:=argsSize p.provides+argsSize p.requires+argsSize p.pre+argsSize p.conflicts+argsSize p.obsoletes+argsSize p.recommends+argsSize p.supplements
def Gk:List (List UInt8)→Nat
  |[]=>0
  |x::r=>1+x.length+Gk r
theorem Kk:∀l:List (List UInt8),l.length≤Gk l
  |[]=>Nat.zero_le _
  |x::r=>by have:=Kk r;simp only[Gk,List.length_cons];omega
theorem Te:∀{l:List (List UInt8)} {i:Nat},i < l.length→(nth l i).length≤Gk l
  |[],_,h=>by simp at h
  |x::r,0,_=>by simp only[Gk];show x.length≤_;omega
  |x::r,i+1,h=>by
    have:=Te (l:=r) (i:=i) (by simpa using h)
    simp only[Gk];show(nth r i).length≤_;omega
def PkgT.size (p:PkgT):Nat:=1+p.name.length+p.evr.length+p.arch.length+p.vendor.length+p.depSize+Gk p.files
theorem PkgT.sizes (p:PkgT):p.name.length≤p.size∧p.evr.length≤p.size∧p.arch.length≤p.size∧p.vendor.length≤p.size∧p.depSize≤p.size∧Gk p.files≤p.size:=by
  unfold PkgT.size;omega
namespace Sv
noncomputable def An (p:PkgT):AV:=.agg [.str p.name,.str p.evr,.str p.arch,.str p.vendor,C0 p.provides,C0 p.requires,C0 p.pre,C0 p.conflicts,C0 p.obsoletes,C0 p.recommends,C0 p.supplements,B1 p.files]
noncomputable def Bb (r:RepoT):AV:=.agg [.str r.name,.int .i64 r.prio,.bool r.inst,Af 12 An r.pkgs]
theorem Q47 {α β:Type} [Inhabited α] (f:α→β) (l:List α) (i:Nat):(l.map f).set i (f (nth l i))=l.map f:=by
  refine List.ext_getElem? fun j=>?_
  rw[List.getElem?_set]
  by_cases h:i=j
  · subst h
    by_cases hi:i < l.length
    · simp[hi,nth]
    · rw[if_pos rfl,if_neg (by simpa using hi),List.getElem?_eq_none (by simpa using hi)]
  · rw[if_neg h]
theorem P3 {α β:Type} [Inhabited α] (f:α→β) {l:List α} {i:Nat} (h:i < l.length):(l.map f)[i]? = some (f (nth l i)):=by simp[nth,h]
theorem Gu (d:DepT):argsSize d.args+1+d.name.length+d.evr.length=d.size:=by cases d;simp only[DepT.size,DepT.args,DepT.name,DepT.evr]
theorem Em:∀l:List DepT,l.length≤argsSize l
  |[]=>Nat.zero_le _
  |d::r=>by
    have:=Em r
    have:1≤d.size:=by cases d;simp only[DepT.size];omega
    simp only[argsSize,List.length_cons];omega
theorem Q1z {l:List DepT} {i:Nat} (h:i < l.length):argsSize (nth l i).args < argsSize l:=by
  have h1:=It (l:=l) (i:=i) h
  have h2:=Gu (nth l i)
  omega
theorem Wm {α β:Type} [Inhabited α] {l:List α} (f:α→β):(List.range l.length).map (fun k=>f (nth l k))=l.map f:=by
  refine List.ext_getElem (by simp) fun j h1 h2=>?_
  simp only[List.length_map,List.length_range] at h1
  simp[nth,h1]
theorem Q65 {α:Type} [Inhabited α] (f:α→AV) (l:List α):([]:List AV)++(List.range l.length).map (fun k=>f (nth l k))=l.map f:=by rw[List.nil_append,Wm]
end Sv
end
section
open Go Go.RowKit
namespace Sv
attribute [local irreducible] SW SO Bh
set_option maxHeartbeats 1000000
set_option maxRecDepth 100000
def Ed {α:Type} (p:α→Bool):List α→Int
 |[] => -1
 |x::r=>if p x then 0 else if Ed p r < 0 then -1 else Ed p r+1
theorem Lw {α:Type} [Inhabited α] {p:α→Bool}:∀{l:List α} {i:Nat},i < l.length→(∀j,j < i→p (nth l j)=false)→p (nth l i)=true→Ed p l=(i:Int)
 |[],_,h,_,_=>by simp at h
 |x::r,0,_,_,h=>by
  have:p x=true:=h
  simp[Ed,this]
 |x::r,i+1,hi,h,hp=>by
  have h0:p x=false:=h 0 (by omega)
  have:=Lw (l:=r) (i:=i) (by simpa using hi) (fun j hj=>h (j+1) (by omega)) hp
  unfold Ed
  rw[if_neg (by simp[h0]),this,if_neg (by omega)];omega
theorem Lv {α:Type} [Inhabited α] {p:α→Bool}:∀{l:List α},(∀j,j < l.length→p (nth l j)=false)→Ed p l = -1
 |[],_=>rfl
 |x::r,h=>by
  have h0:p x=false:=h 0 (by simp)
  have:=Lv (l:=r) (fun j hj=>h (j+1) (by simpa using hj))
  unfold Ed
  rw[if_neg (by simp[h0]),this];rfl
theorem Lx {α:Type} (p:α→Bool):∀l:List α,decide (0≤Ed p l)=l.any p
 |[]=>rfl
 |x::r=>by
  have:=Lx p r
  unfold Ed
  rw[List.any_cons,←this]
  split
  ·rename_i h;simp[h]
  ·rename_i h
   have h':p x=false:=by simpa using h
   rw[h',Bool.false_or]
   split
   ·rename_i h2;rw[decide_eq_false (by omega),decide_eq_false (by omega)]
   ·rename_i h2;rw[decide_eq_true (by omega),decide_eq_true (by omega)]
theorem P7 {d:DepT} (h:d.kind=1):Cb d=G2 d.name d.op d.evr d.args.length:=by cases d;unfold Cb;exact if_pos h
theorem Kj {d:DepT} (h:¬d.kind=1):Cb d=(!Fx d.kind d.name d.op d.evr d.args.length&&argsForm d.kind d.args):=by cases d;unfold Cb;exact if_neg h
theorem Q60 {d:DepT} (h:d.kind=1):Dq d=1:=by cases d;unfold Dq;exact if_pos h
theorem Q61 {d:DepT} (h:¬d.kind=1):Dq d=argsParts d.args:=by cases d;unfold Dq;exact if_neg h
theorem Q71 (d:DepT):Ea d=(if d.kind=1 then 1 else 0)+argsNames d.args:=by cases d;unfold Ea;rfl
theorem Q79 (k:Int):(Bn [((4:Int),(3:Int)),(6,2)] k).getD 0=Eb k:=by
 have:=Q78 k
 have e:Ds (Ds ([]:List (Int × Int)) 4 3) 6 2=[(4,3),(6,2)]:=rfl
 rw[e] at this
 cases h:Bn [((4:Int),(3:Int)),(6,2)] k<;>simp_all
theorem X24 (l : List DepT) (a : AV) (p : DepT → Bool) (hl : l.length ≤ 4611686018427387904) (ha : ∀ i, i < l.length → FunV Tryz.prog a [(.agg [(.int .i64 ((nth l i).kind)), (.str ((nth l i).name)), (.int .i64 ((nth l i).op)), (.str ((nth l i).evr)), (.row 5 (nth l i).args.length (depAt (nth l i).args))])] (.bool (p (nth l i)))) :
  FnV Tryz.prog 192 [(Af 5 Am l),(.clo a)] (.int .i64 (Ed p l)):=by
 refine A1 [.tmp 4] Tryz.func192 rfl Tryz.ntmps192 rfl rfl (fun B F hF=>?_)
 refine Aa [] [0,1] ?_
 refine Ab ?_
 refine Aa [] [0,1,7,8] ?_
 refine Ax ?_
 refine B4 (fun g y=>∃(i:Nat),i≤l.length∧(∀j,j < i→p (nth l j)=false)∧y=⟨[(0,(Af 5 Am l)),(1,(.clo a)),(7,(.int .i64 ((l.length:Int)))),(8,(.int .i64 ((i:Int))))],[],0⟩∧g=l.length-i) [0,1,7,8] 0 _ (by omega) ⟨0,(by omega),(by exact fun j hj=>by omega),(by kernel_rfl),rfl⟩ ?_
 rintro g1 y1 ⟨i,f1_1,f1_2,rfl,rfl⟩
 refine Aa [] [0,1,7,8,9] ?_
 refine Ab ?_
 refine Ba (p:=(i:Int) < (l.length:Int)) (by kernel_rfl) (fun c1=>?_) (fun c1=>?_)
 ·refine Ah ?_
  refine Ab ?_
  refine Ax ?_
  refine Aa [] [0,1,5,7,8] ?_
  refine Ab ?_
  refine Ar ?_
  refine Bm 5 0 [] [0,1,5,7,8,11,15] [] hk0 v0 (cc 3 (p:=(0≤(i:Int)∧i < l.length)) (by omega)<|c0) ?_
  refine Fq (s':=[(0,(Af 5 Am l)),(1,(.clo a)),(5,(.int .i64 ((i:Int)))),(7,(.int .i64 ((l.length:Int)))),(8,(.int .i64 ((i:Int)))),(11,(.clo a)),(15,(.agg [(.int .i64 ((nth l i).kind)),(.str ((nth l i).name)),(.int .i64 ((nth l i).op)),(.str ((nth l i).evr)),(.row 5 (nth l i).args.length (depAt (nth l i).args))])),(16,(.bool (p (nth l i))))]) (a:=(.clo a)) (al:=[(.agg [(.int .i64 ((nth l i).kind)),(.str ((nth l i).name)),(.int .i64 ((nth l i).op)),(.str ((nth l i).evr)),(.row 5 (nth l i).args.length (depAt (nth l i).args))])]) (r:=(.bool (p (nth l i)))) (by kernel_rfl) (by kernel_rfl) (by kernel_rfl) (by kernel_rfl) (by kernel_rfl) ((ha i (by omega)).clo) (by kernel_rfl) ?_
  refine Bo ?_
  refine Be (q:=p (nth l i)) (by kernel_rfl) (fun c2=>?_) (fun c2=>?_)
  ·try simp only[Ao] at c2
   refine Aa [] [4] ?_
   refine Ac ?_
   refine RK wR [(.int .i64 ((i:Int)))] ?_
   exact Same.of_eq (by rw[Lw (by omega) f1_2 (by simp_all)];rfl)
  ·try simp only[Ao] at c2
   refine Ah ?_
   refine Ar ?_
   refine Aw 0 [] [0,1,7,8] [] hk0 v0 (cc 0 (p:=(-9223372036854775808≤(i:Int)+1∧(i:Int)+1≤9223372036854775807)) (by omega)<|c0) ?_
   refine⟨by kernel_rfl,_,?_,i+1,?_,?_,(by kernel_rfl),rfl⟩
   ·omega
   ·omega
   ·intro j hj
    by_cases h:j=i
    ·subst h;simp_all
    ·exact f1_2 j (by omega)
 ·refine Bq ?_
  refine Aa [] [4] ?_
  refine Ac ?_
  refine RK wR [(.int .i64 (-1))] ?_
  exact Same.of_eq (by rw[Lv (fun j hj=>f1_2 j (by omega))];rfl)
theorem X25 (l : List DepT) (a : AV) (p : DepT → Bool) (hl : l.length ≤ 4611686018427387904) (ha : ∀ i, i < l.length → FunV Tryz.prog a [(.agg [(.int .i64 ((nth l i).kind)), (.str ((nth l i).name)), (.int .i64 ((nth l i).op)), (.str ((nth l i).evr)), (.row 5 (nth l i).args.length (depAt (nth l i).args))])] (.bool (p (nth l i)))) :
  FnV Tryz.prog 181 [(Af 5 Am l),(.clo a)] (.bool (l.any p)):=by
 refine A1 [.tmp 4] Tryz.func181 rfl Tryz.ntmps181 rfl rfl (fun B F hF=>?_)
 refine Aa [] [0,1] ?_
 refine Ae [] [4] [] (hk 2 X1v (X24 l a p hl ha)<|hk0) v0 c0 ?_
 refine Ac ?_
 refine RK wR [(.bool (decide (0≤(Ed p l))))] ?_
 exact Same.of_eq (by simp only[Ai];rw[Lx])
theorem Q93 (a d : DepT) (ih : FnV Tryz.prog 155 [Am a] (.bool (Cb a))) :
  FnV Tryz.prog 182 [(.agg [(.int .i64 a.kind),(.str a.name),(.int .i64 a.op),(.str a.evr),(.row 5 a.args.length (depAt a.args))]),(.fp (.agg [(.int .i64 d.kind),(.str d.name),(.int .i64 d.op),(.str d.evr),(.row 5 d.args.length (depAt d.args))]))] (.bool (L1 d.kind a)):=by
 refine A1 [.tmp 3] Tryz.func182 rfl Tryz.ntmps182 rfl rfl (fun B F hF=>?_)
 refine Ae [] [1,2] [(1,2)] hk0 v0 c0 ?_
 obtain⟨b1,hb1⟩:∃b,b=(decide (a.kind=1)):=⟨_,rfl⟩
 obtain⟨b2,hb2⟩:∃b,b=(b1||(decide (a.kind=5))):=⟨_,rfl⟩
 refine Ae (CS:=[(5,((!b1)=true→(!b1)=true)),(6,((!b1)=true→(!b1)=true)),(7,(b1=false→(!b1)=true)),(10,((!b2)=true→(!b2)=true)),(11,((!b2)=true→(!b2)=true)),(12,(b2=false→(!b2)=true))]) [9,10,11,14,15,16] [1,2,4] [] hk0 (vk 4 8 (a:=.bool (decide (a.kind=1))) (b:=.bool b1) (Imp.of_eq (by rw[hb1]))<|vk 9 13 (a:=.bool (b1||(decide (a.kind=5)))) (b:=.bool b2) (Imp.of_eq (by rw[hb2]))<|v0) (by refine cc _ ?_<|cc _ ?_<|cc _ ?_<|cc _ ?_<|cc _ ?_<|cc _ ?_ c0<;>simp) ?_
 obtain⟨b3,hb3⟩:∃b,b=(decide (5≤d.kind)):=⟨_,rfl⟩
 obtain⟨b4,hb4⟩:∃b,b=(b3&&(!(b2||(decide (a.kind=6))))):=⟨_,rfl⟩
 refine Ae (CS:=[(5,(b3=true→b3=true)),(6,(b3=true→b3=true)),(9,(!b4)=true→(!b4)=true),(10,((!b4)=true→(!b4)=true)),(11,(b4=false→(!b4)=true))]) [22,23,26,28] [3] [] (hkg 9 (!b4) Q0t (fun cg=>ih)<|hk0) (vk 4 21 (a:=.bool (decide (5≤d.kind))) (b:=.bool b3) (Imp.of_eq (by rw[hb3]))<|vk 8 25 (a:=.bool (b3&&(!(b2||(decide (a.kind=6)))))) (b:=.bool b4) (Imp.of_eq (by rw[hb4]))<|v0) (by refine cc _ ?_<|cc _ ?_<|cc _ ?_<|cc _ ?_<|cc _ ?_ c0<;>simp) ?_
 refine Ac ?_
 refine RK wR [(.bool (b4||(!(Cb a))))] ?_
 subst hb4 hb3 hb2 hb1
 refine Same.of_eq ?_
 simp only[Ai]
 congr 1
 unfold L1 Ii
 rw[Bool.eq_iff_iff]
 simp only[Bool.and_eq_true,Bool.or_eq_true,Bool.not_eq_true',Bool.and_eq_false_iff,Bool.or_eq_false_iff,decide_eq_true_eq,decide_eq_false_iff_not]
 cases Cb a<;>simp<;>omega
theorem Q95 (d : DepT) (hs : d.size ≤ 4194304) (ih : ∀ i, i < d.args.length → FnV Tryz.prog 155 [Am (nth d.args i)] (.bool (Cb (nth d.args i)))) :
  FnV Tryz.prog 155 [(.agg [(.int .i64 d.kind),(.str d.name),(.int .i64 d.op),(.str d.evr),(.row 5 d.args.length (depAt d.args))])] (.bool (Cb d)):=by
 have hda:=Gu d
 have hal:=Em d.args
 refine A1 [.tmp 2] Tryz.func155 rfl Tryz.ntmps155 rfl rfl (fun B F hF=>?_)
 refine Ae [] [1] [(1,1)] hk0 v0 c0 ?_
 refine Ab ?_
 refine Aa [] [1,8] ?_
 refine Ba (p:=d.kind=1) (by kernel_rfl) (fun c1=>?_) (fun c1=>?_)
 ·refine Ae [] [1,4] [(8,3)] (hk 2 Nl (Qb d.evr (by omega))<|hk0) v0 c0 ?_
  obtain⟨b1,hb1⟩:∃b,b=((Bc d.name)&&(decide ((d.args.length:Int)=0))):=⟨_,rfl⟩
  obtain⟨b2,hb2⟩:∃b,b=(b1&&(((decide (d.op=0))&&(decide (d.evr=[])))||(((decide (1≤d.op))&&(decide (d.op≤7)))&&(decide ((Bv d.evr)=0))))):=⟨_,rfl⟩
  have qh1:(((Bc d.name)=true→(Bc d.name)=true))∧(((Bc d.name)=true→(Bc d.name)=true))∧(((Bc d.name)=true→(Bc d.name)=true))∧(((Bc d.name)=true→(Bc d.name)=true))∧((b1=true→b1=true))∧((b1=true→b1=true))∧((b1=true→b1=true))∧(((b1&&(decide (d.op=0)))=true→(b1&&(decide (d.op=0)))=true))∧(((b1&&(decide (d.op=0)))=true→(b1&&(decide (d.op=0)))=true))∧((b1=true→(b1=true)∧((decide (d.op=0))=true→(b1&&(decide (d.op=0)))=true)))∧((b1=true→b1=true))∧(((b1&&(!((decide (d.op=0))&&(decide (d.evr=[])))))=true→(b1&&(!((decide (d.op=0))&&(decide (d.evr=[])))))=true))∧(((b1&&(!((decide (d.op=0))&&(decide (d.evr=[])))))=true→(b1&&(!((decide (d.op=0))&&(decide (d.evr=[])))))=true))∧(((b1&&(!((decide (d.op=0))&&(decide (d.evr=[])))))=true→(b1&&(!((decide (d.op=0))&&(decide (d.evr=[])))))=true))∧((((b1&&(!((decide (d.op=0))&&(decide (d.evr=[])))))&&(decide (1≤d.op)))=true→((b1&&(!((decide (d.op=0))&&(decide (d.evr=[])))))&&(decide (1≤d.op)))=true))∧((((b1&&(!((decide (d.op=0))&&(decide (d.evr=[])))))&&(decide (1≤d.op)))=true→((b1&&(!((decide (d.op=0))&&(decide (d.evr=[])))))&&(decide (1≤d.op)))=true))∧(((b1&&(!((decide (d.op=0))&&(decide (d.evr=[])))))=true→((b1&&(!((decide (d.op=0))&&(decide (d.evr=[])))))=true)∧((decide (1≤d.op))=true→((b1&&(!((decide (d.op=0))&&(decide (d.evr=[])))))&&(decide (1≤d.op)))=true)))∧(((b1&&(!((decide (d.op=0))&&(decide (d.evr=[])))))=true→(b1&&(!((decide (d.op=0))&&(decide (d.evr=[])))))=true))∧((((b1&&(!((decide (d.op=0))&&(decide (d.evr=[])))))&&((decide (1≤d.op))&&(decide (d.op≤7))))=true→((b1&&(!((decide (d.op=0))&&(decide (d.evr=[])))))&&((decide (1≤d.op))&&(decide (d.op≤7))))=true))∧(((b1&&(!((decide (d.op=0))&&(decide (d.evr=[])))))=true→((b1&&(!((decide (d.op=0))&&(decide (d.evr=[])))))=true)∧(((decide (1≤d.op))&&(decide (d.op≤7)))=true→((b1&&(!((decide (d.op=0))&&(decide (d.evr=[])))))&&((decide (1≤d.op))&&(decide (d.op≤7))))=true)))∧((b1=true→(b1=true)∧(((decide (d.op=0))&&(decide (d.evr=[])))=false→(b1&&(!((decide (d.op=0))&&(decide (d.evr=[])))))=true)))∧((b1=true→b1=true)):=by
   first|omega|(simp;omega)|(simp;done)|(intros;simp_all;omega)|(intros;simp_all;done)|(intros;simp_all;by_cases h:d.op=0<;>simp_all)
  refine Ae [19,20,21,22,25,26,27,28,29,30,31,32,33,34,35,36,37,38,39,40,41,42,43,44,45,46] [2] [] (hk 2 Ji (Mf d.name (by omega))<|hk0) (vk 9 23 (a:=.bool ((Bc d.name)&&(decide ((d.args.length:Int)=0)))) (b:=.bool b1) (Imp.of_eq (by rw[hb1]))<|vk 33 47 (a:=.bool (b1&&(((decide (d.op=0))&&(decide (d.evr=[])))||(((decide (1≤d.op))&&(decide (d.op≤7)))&&(decide ((Bv d.evr)=0)))))) (b:=.bool b2) (Imp.of_eq (by rw[hb2]))<|v0) (cc 5 (p:=((Bc d.name)=true→(Bc d.name)=true)) qh1.1<|cc 6 (p:=((Bc d.name)=true→(Bc d.name)=true)) qh1.2.1<|cc 7 (p:=((Bc d.name)=true→(Bc d.name)=true)) qh1.2.2.1<|cc 8 (p:=((Bc d.name)=true→(Bc d.name)=true)) qh1.2.2.2.1<|cc 11 (p:=(b1=true→b1=true)) qh1.2.2.2.2.1<|cc 12 (p:=(b1=true→b1=true)) qh1.2.2.2.2.2.1<|cc 13 (p:=(b1=true→b1=true)) qh1.2.2.2.2.2.2.1<|cc 15 (p:=((b1&&(decide (d.op=0)))=true→(b1&&(decide (d.op=0)))=true)) qh1.2.2.2.2.2.2.2.1<|cc 16 (p:=((b1&&(decide (d.op=0)))=true→(b1&&(decide (d.op=0)))=true)) qh1.2.2.2.2.2.2.2.2.1<|cc 17 (p:=(b1=true→(b1=true)∧((decide (d.op=0))=true→(b1&&(decide (d.op=0)))=true))) qh1.2.2.2.2.2.2.2.2.2.1<|cc 18 (p:=(b1=true→b1=true)) qh1.2.2.2.2.2.2.2.2.2.2.1<|cc 20 (p:=((b1&&(!((decide (d.op=0))&&(decide (d.evr=[])))))=true→(b1&&(!((decide (d.op=0))&&(decide (d.evr=[])))))=true)) qh1.2.2.2.2.2.2.2.2.2.2.2.1<|cc 21 (p:=((b1&&(!((decide (d.op=0))&&(decide (d.evr=[])))))=true→(b1&&(!((decide (d.op=0))&&(decide (d.evr=[])))))=true)) qh1.2.2.2.2.2.2.2.2.2.2.2.2.1<|cc 22 (p:=((b1&&(!((decide (d.op=0))&&(decide (d.evr=[])))))=true→(b1&&(!((decide (d.op=0))&&(decide (d.evr=[])))))=true)) qh1.2.2.2.2.2.2.2.2.2.2.2.2.2.1<|cc 24 (p:=(((b1&&(!((decide (d.op=0))&&(decide (d.evr=[])))))&&(decide (1≤d.op)))=true→((b1&&(!((decide (d.op=0))&&(decide (d.evr=[])))))&&(decide (1≤d.op)))=true)) qh1.2.2.2.2.2.2.2.2.2.2.2.2.2.2.1<|cc 25 (p:=(((b1&&(!((decide (d.op=0))&&(decide (d.evr=[])))))&&(decide (1≤d.op)))=true→((b1&&(!((decide (d.op=0))&&(decide (d.evr=[])))))&&(decide (1≤d.op)))=true)) qh1.2.2.2.2.2.2.2.2.2.2.2.2.2.2.2.1<|cc 26 (p:=((b1&&(!((decide (d.op=0))&&(decide (d.evr=[])))))=true→((b1&&(!((decide (d.op=0))&&(decide (d.evr=[])))))=true)∧((decide (1≤d.op))=true→((b1&&(!((decide (d.op=0))&&(decide (d.evr=[])))))&&(decide (1≤d.op)))=true))) qh1.2.2.2.2.2.2.2.2.2.2.2.2.2.2.2.2.1<|cc 27 (p:=((b1&&(!((decide (d.op=0))&&(decide (d.evr=[])))))=true→(b1&&(!((decide (d.op=0))&&(decide (d.evr=[])))))=true)) qh1.2.2.2.2.2.2.2.2.2.2.2.2.2.2.2.2.2.1<|cc 29 (p:=(((b1&&(!((decide (d.op=0))&&(decide (d.evr=[])))))&&((decide (1≤d.op))&&(decide (d.op≤7))))=true→((b1&&(!((decide (d.op=0))&&(decide (d.evr=[])))))&&((decide (1≤d.op))&&(decide (d.op≤7))))=true)) qh1.2.2.2.2.2.2.2.2.2.2.2.2.2.2.2.2.2.2.1<|cc 30 (p:=((b1&&(!((decide (d.op=0))&&(decide (d.evr=[])))))=true→((b1&&(!((decide (d.op=0))&&(decide (d.evr=[])))))=true)∧(((decide (1≤d.op))&&(decide (d.op≤7)))=true→((b1&&(!((decide (d.op=0))&&(decide (d.evr=[])))))&&((decide (1≤d.op))&&(decide (d.op≤7))))=true))) qh1.2.2.2.2.2.2.2.2.2.2.2.2.2.2.2.2.2.2.2.1<|cc 31 (p:=(b1=true→(b1=true)∧(((decide (d.op=0))&&(decide (d.evr=[])))=false→(b1&&(!((decide (d.op=0))&&(decide (d.evr=[])))))=true))) qh1.2.2.2.2.2.2.2.2.2.2.2.2.2.2.2.2.2.2.2.2.1<|cc 32 (p:=(b1=true→b1=true)) qh1.2.2.2.2.2.2.2.2.2.2.2.2.2.2.2.2.2.2.2.2.2<|c0) ?_
  refine Ac ?_
  refine RK wR [(.bool b2)] ?_
  subst hb2 hb1
  refine Same.of_eq ?_
  simp only[Ai]
  rw[P7 c1,Zr]
  congr 1
  rw[Bool.eq_iff_iff]
  simp only[Bool.and_eq_true,Bool.or_eq_true,decide_eq_true_eq,and_assoc]
  rw[show((d.args.length:Int)=0)=(d.args.length=0) from propext (by omega)]
 ·refine Ah ?_
  refine Ab ?_
  refine Ar ?_
  refine Bm 1 0 [] [1,48] [] hk0 v0 c0 ?_
  refine Q21 (b:=1) (k:=4) (a:=3) (c:=0) (es:=[]) (m:=[]) (by kernel_rfl) (by kernel_rfl) (by kernel_rfl) (by kernel_rfl) (by kernel_rfl) (by kernel_rfl) (by kernel_rfl) Tryz.underlying203 Tryz.underlying3 ?_
  refine Q21 (b:=1) (k:=6) (a:=2) (c:=1) (es:=[(.int .i64 4,.int .i64 3,0)]) (m:=[(4,3)]) (by kernel_rfl) (by kernel_rfl) (by kernel_rfl) (by kernel_rfl) (by kernel_rfl) (by kernel_rfl) (by kernel_rfl) Tryz.underlying203 Tryz.underlying3 ?_
  refine Bm 3 3 [] [1,49,51] [] hk0 v0 c0 ?_
  refine X6a (b:=1) (c:=2) (es:=[(.int .i64 4,.int .i64 3,0),(.int .i64 6,.int .i64 2,1)]) (m:=[(4,3),(6,2)]) (s':=[(1,(.fp (.agg [(.int .i64 d.kind),(.str d.name),(.int .i64 d.op),(.str d.evr),(.row 5 d.args.length (depAt d.args))]))),(49,(.map 1)),(51,(.int .i64 d.kind)),(52,(.int .i64 (Eb d.kind)))]) (by kernel_rfl) (by kernel_rfl) (by kernel_rfl) (by kernel_rfl) (by kernel_rfl) Tryz.underlying203 Tryz.underlying3 (fun _=>by kernel_rfl) (Q79 d.kind) (by kernel_rfl) ?_
  refine Aw 7 [] [1,5] [] hk0 v0 c0 ?_
  refine Ab ?_
  obtain⟨b3,hb3⟩:∃b,b=(decide (d.kind < 2)):=⟨_,rfl⟩
  obtain⟨b4,hb4⟩:∃b,b=(b3||(decide (6 < d.kind))):=⟨_,rfl⟩
  obtain⟨b5,hb5⟩:∃b,b=(b4||(!decide (d.name=[]))):=⟨_,rfl⟩
  obtain⟨b6,hb6⟩:∃b,b=(b5||(!decide (d.op=0))):=⟨_,rfl⟩
  obtain⟨b7,hb7⟩:∃b,b=(b6||(!decide (d.evr=[]))):=⟨_,rfl⟩
  obtain⟨b8,hb8⟩:∃b,b=(b7||(decide ((d.args.length:Int) < 2))):=⟨_,rfl⟩
  refine Ae (CS:=[(5,((!b3)=true→(!b3)=true)),(6,((!b3)=true→(!b3)=true)),(7,(b3=false→(!b3)=true)),(10,((!b4)=true→(!b4)=true)),(11,((!b4)=true→(!b4)=true)),(12,(b4=false→(!b4)=true)),(15,((!b5)=true→(!b5)=true)),(16,((!b5)=true→(!b5)=true)),(17,(b5=false→(!b5)=true)),(20,((!b6)=true→(!b6)=true)),(21,((!b6)=true→(!b6)=true)),(22,(b6=false→(!b6)=true)),(25,((!b7)=true→(!b7)=true)),(26,((!b7)=true→(!b7)=true)),(27,((!b7)=true→(!b7)=true)),(28,(b7=false→(!b7)=true)),(31,((!b8)=true→(!b8)=true)),(32,((!b8)=true→(!b8)=true)),(34,(((!b8)&&(decide (0 < (Eb d.kind))))=true→((!b8)&&(decide (0 < (Eb d.kind))))=true)),(35,(((!b8)&&(decide (0 < (Eb d.kind))))=true→((!b8)&&(decide (0 < (Eb d.kind))))=true)),(37,(((!b8)&&(decide (0 < (Eb d.kind))))=true→((!b8)&&(decide (0 < (Eb d.kind))))=true∧((!b8)&&(decide (0 < (Eb d.kind))))=true)),(38,((!b8)=true→((!b8)=true)∧((decide (0 < (Eb d.kind)))=true→((!b8)&&(decide (0 < (Eb d.kind))))=true))),(39,(b8=false→(!b8)=true))]) [57,58,59,62,63,64,67,68,69,72,73,74,77,78,79,80,83,84,85,86,87,88,89,90,91] [1,92] [] hk0 (vk 4 56 (a:=.bool (decide (d.kind < 2))) (b:=.bool b3) (Imp.of_eq (by rw[hb3]))<|vk 9 61 (a:=.bool (b3||(decide (6 < d.kind)))) (b:=.bool b4) (Imp.of_eq (by rw[hb4]))<|vk 14 66 (a:=.bool (b4||(!decide (d.name=[])))) (b:=.bool b5) (Imp.of_eq (by rw[hb5]))<|vk 19 71 (a:=.bool (b5||(!decide (d.op=0)))) (b:=.bool b6) (Imp.of_eq (by rw[hb6]))<|vk 24 76 (a:=.bool (b6||(!decide (d.evr=[])))) (b:=.bool b7) (Imp.of_eq (by rw[hb7]))<|vk 30 82 (a:=.bool (b7||(decide ((d.args.length:Int) < 2)))) (b:=.bool b8) (Imp.of_eq (by rw[hb8]))<|v0) (by refine cc _ ?_<|cc _ ?_<|cc _ ?_<|cc _ ?_<|cc _ ?_<|cc _ ?_<|cc _ ?_<|cc _ ?_<|cc _ ?_<|cc _ ?_<|cc _ ?_<|cc _ ?_<|cc _ ?_<|cc _ ?_<|cc _ ?_<|cc _ ?_<|cc _ ?_<|cc _ ?_<|cc _ ?_<|cc _ ?_<|cc _ ?_<|cc _ ?_<|cc _ ?_ c0<;>(intros;simp_all;done)) ?_
  refine Be (q:=b8||((decide (0 < (Eb d.kind)))&&(decide ((Eb d.kind) < (d.args.length:Int))))) (by kernel_rfl) (fun c2=>?_) (fun c2=>?_)
  ·subst hb8 hb7 hb6 hb5 hb4 hb3
   try simp only[Ao] at c2
   refine Aa [] [2] ?_
   refine Ac ?_
   refine RK wR [(.bool false)] ?_
   refine Same.of_eq ?_
   simp only[Ai]
   rw[Kj c1,Zs,decide_eq_true (by rcases c2 with (((((h|h)|h)|h)|h)|h)|h<;>first|(simp[h];done)|(have h':d.args.length < 2:=(by omega);simp[h']))]
   rfl
  ·subst hb8 hb7 hb6 hb5 hb4 hb3
   try simp only[Ao] at c2
   refine Ah ?_
   refine Ae [] [2] [] (hk 3 (al:=[(Af 5 Am d.args),(.fn 182 [] [(.fp (.agg [(.int .i64 d.kind),(.str d.name),(.int .i64 d.op),(.str d.evr),(.row 5 d.args.length (depAt d.args))]))])]) X1z ((X25 d.args (.fn 182 [] [.fp (Am d)]) (L1 d.kind) (by omega) (fun i hi=>FunV.of (by exact X1y) (Q93 (nth d.args i) d (ih i hi)))).of_args (ImpL.cons Imp.refl (ImpL.cons (Imp.clo (by kernel_rfl)) ImpL.nil)))<|hk0) (vk 3 94 (Io d.args)<|v0) c0 ?_
   refine Ac ?_
   refine RK wR [(.bool (!(d.args.any (L1 d.kind))))] ?_
   refine Same.of_eq ?_
   simp only[Ai]
   rw[Kj c1,Zs,decide_eq_false (by rcases c2 with⟨⟨⟨⟨⟨⟨h1,h2⟩,h3⟩,h4⟩,h5⟩,h6⟩,h7⟩;simp[h3,h4,h5];omega),Q11]
   simp
theorem Q94 (d:DepT):d.size≤4194304→FnV Tryz.prog 155 [Am d] (.bool (Cb d)) :=
 Ns (C:=fun d=>d.size≤4194304→FnV Tryz.prog 155 [Am d] (.bool (Cb d))) (fun d ih hs=>Q95 d hs fun i hi=>ih i hi (by have:=Jz hi;omega)) d
theorem Q6c (d : DepT) (hs : d.size ≤ 4194304) (ih : ∀ i, i < d.args.length → FnV Tryz.prog 107 [Am (nth d.args i)] (.bool (Cb (nth d.args i)))) :
  FnV Tryz.prog 107 [(.agg [(.int .i64 d.kind),(.str d.name),(.int .i64 d.op),(.str d.evr),(.row 5 d.args.length (depAt d.args))])] (.bool (Cb d)):=by
 have hda:=Gu d
 have hal:=Em d.args
 refine A1 [.tmp 2] Tryz.func107 rfl Tryz.ntmps107 rfl rfl (fun B F hF=>?_)
 refine Ae [] [1] [(1,1)] hk0 v0 c0 ?_
 refine Ab ?_
 refine Aa [] [1,12] ?_
 refine Ba (p:=d.kind=1) (by kernel_rfl) (fun c1=>?_) (fun c1=>?_)
 ·refine Ae [] [1,3] [] (hk 2 Nn (O7 d.name (by omega))<|hk0) v0 c0 ?_
  refine Ab ?_
  obtain⟨b1,hb1⟩:∃b,b=(!(Bc d.name)):=⟨_,rfl⟩
  obtain⟨b2,hb2⟩:∃b,b=(b1||(decide (d.op < 0))):=⟨_,rfl⟩
  obtain⟨b3,hb3⟩:∃b,b=(b2||(decide (7 < d.op))):=⟨_,rfl⟩
  refine Ae (CS:=[(4,((!b1)=true→(!b1)=true)),(5,((!b1)=true→(!b1)=true)),(6,(b1=false→(!b1)=true)),(9,((!b2)=true→(!b2)=true)),(10,((!b2)=true→(!b2)=true)),(11,(b2=false→(!b2)=true)),(14,((!b3)=true→(!b3)=true)),(15,((!b3)=true→(!b3)=true)),(16,((!b3)=true→(!b3)=true)),(17,(b3=false→(!b3)=true))]) [19,20,21,24,25,26,29,30,31,32] [1,33] [] hk0 (vk 3 18 (a:=.bool (!(Bc d.name))) (b:=.bool b1) (Imp.of_eq (by rw[hb1]))<|vk 8 23 (a:=.bool (b1||(decide (d.op < 0)))) (b:=.bool b2) (Imp.of_eq (by rw[hb2]))<|vk 13 28 (a:=.bool (b2||(decide (7 < d.op)))) (b:=.bool b3) (Imp.of_eq (by rw[hb3]))<|v0) (by refine cc _ ?_<|cc _ ?_<|cc _ ?_<|cc _ ?_<|cc _ ?_<|cc _ ?_<|cc _ ?_<|cc _ ?_<|cc _ ?_<|cc _ ?_ c0<;>simp) ?_
  refine Be (q:=b3||(decide (0 < (d.args.length:Int)))) (by kernel_rfl) (fun c2=>?_) (fun c2=>?_)
  ·subst hb3 hb2 hb1
   try simp only[Ao] at c2
   refine Aa [] [2] ?_
   refine Ac ?_
   refine RK wR [(.bool false)] ?_
   refine Same.of_eq ?_
   simp only[Ai]
   rw[P7 c1,Zu (by rcases c2 with ((h|h)|h)|h<;>first|omega|simp_all)]
  ·subst hb3 hb2 hb1
   try simp only[Ao] at c2
   refine Ah ?_
   refine Ab ?_
   refine Aa [] [1,36] ?_
   refine Ba (p:=d.op=0) (by kernel_rfl) (fun c3=>?_) (fun c3=>?_)
   ·refine Aa [] [2] ?_
    refine Ac ?_
    refine RK wR [(.bool (decide (d.evr=[])))] ?_
    refine Same.of_eq ?_
    simp only[Ai]
    rw[P7 c1,Q96 ⟨c2.1.1.1,by omega,by omega,by omega⟩ c3]
   ·refine Ah ?_
    refine Ae [] [5] [(8,4)] (hk 2 Ti (Wk d.evr (by omega))<|hk0) v0 c0 ?_
    refine Aa [] [2] ?_
    refine Ac ?_
    refine RK wR [(.bool (decide ((Bv d.evr)=0)))] ?_
    refine Same.of_eq ?_
    simp only[Ai]
    rw[P7 c1,Q97 ⟨c2.1.1.1,by omega,by omega,by omega⟩ c3]
 ·refine Ah ?_
  refine Aa [] [1,6] ?_
  refine Ab ?_
  obtain⟨b4,hb4⟩:∃b,b=(decide (d.kind < 2)):=⟨_,rfl⟩
  obtain⟨b5,hb5⟩:∃b,b=(b4||(decide (6 < d.kind))):=⟨_,rfl⟩
  obtain⟨b6,hb6⟩:∃b,b=(b5||(!decide (d.name=[]))):=⟨_,rfl⟩
  obtain⟨b7,hb7⟩:∃b,b=(b6||(!decide (d.op=0))):=⟨_,rfl⟩
  obtain⟨b8,hb8⟩:∃b,b=(b7||(!decide (d.evr=[]))):=⟨_,rfl⟩
  refine Ae (CS:=[(5,((!b4)=true→(!b4)=true)),(6,((!b4)=true→(!b4)=true)),(7,(b4=false→(!b4)=true)),(10,((!b5)=true→(!b5)=true)),(11,((!b5)=true→(!b5)=true)),(12,(b5=false→(!b5)=true)),(15,((!b6)=true→(!b6)=true)),(16,((!b6)=true→(!b6)=true)),(17,(b6=false→(!b6)=true)),(20,((!b7)=true→(!b7)=true)),(21,((!b7)=true→(!b7)=true)),(22,(b7=false→(!b7)=true)),(25,((!b8)=true→(!b8)=true)),(26,(b8=false→(!b8)=true))]) [55,56,57,60,61,62,65,66,67,70,71,72,75,76] [1,6,77] [] hk0 (vk 4 54 (a:=.bool (decide (d.kind < 2))) (b:=.bool b4) (Imp.of_eq (by rw[hb4]))<|vk 9 59 (a:=.bool (b4||(decide (6 < d.kind)))) (b:=.bool b5) (Imp.of_eq (by rw[hb5]))<|vk 14 64 (a:=.bool (b5||(!decide (d.name=[])))) (b:=.bool b6) (Imp.of_eq (by rw[hb6]))<|vk 19 69 (a:=.bool (b6||(!decide (d.op=0)))) (b:=.bool b7) (Imp.of_eq (by rw[hb7]))<|vk 24 74 (a:=.bool (b7||(!decide (d.evr=[])))) (b:=.bool b8) (Imp.of_eq (by rw[hb8]))<|v0) (by refine cc _ ?_<|cc _ ?_<|cc _ ?_<|cc _ ?_<|cc _ ?_<|cc _ ?_<|cc _ ?_<|cc _ ?_<|cc _ ?_<|cc _ ?_<|cc _ ?_<|cc _ ?_<|cc _ ?_<|cc _ ?_ c0<;>simp) ?_
  refine Be (q:=b8||(decide ((d.args.length:Int) < 2))) (by kernel_rfl) (fun c4=>?_) (fun c4=>?_)
  ·subst hb8 hb7 hb6 hb5 hb4
   try simp only[Ao] at c4
   refine Aa [] [2] ?_
   refine Ac ?_
   refine RK wR [(.bool false)] ?_
   refine Same.of_eq ?_
   simp only[Ai]
   rw[Kj c1,X0f (by rcases c4 with ((((h|h)|h)|h)|h)|h<;>first|(simp[h];done)|(have h':d.args.length < 2:=(by omega);simp[h']))]
   rfl
  ·subst hb8 hb7 hb6 hb5 hb4
   try simp only[Ao] at c4
   refine Ah ?_
   refine Ab ?_
   obtain⟨b9,hb9⟩:∃b,b=(decide (d.kind=4)):=⟨_,rfl⟩
   obtain⟨b10,hb10⟩:∃b,b=(b9&&(decide (3 < (d.args.length:Int)))):=⟨_,rfl⟩
   refine Ae (CS:=[(5,(b9=true→b9=true)),(6,(b9=true→b9=true)),(9,((!b10)=true→(!b10)=true)),(10,((!b10)=true→(!b10)=true)),(11,((!b10)=true→(!b10)=true)),(13,(((!b10)&&(decide (d.kind=6)))=true→((!b10)&&(decide (d.kind=6)))=true)),(14,((!b10)=true→((!b10)=true)∧((decide (d.kind=6))=true→((!b10)&&(decide (d.kind=6)))=true))),(15,(b10=false→(!b10)=true))]) [82,83,86,87,88,89,90,91,92] [1,6,93] [] hk0 (vk 4 81 (a:=.bool (decide (d.kind=4))) (b:=.bool b9) (Imp.of_eq (by rw[hb9]))<|vk 8 85 (a:=.bool (b9&&(decide (3 < (d.args.length:Int))))) (b:=.bool b10) (Imp.of_eq (by rw[hb10]))<|v0) (by refine cc _ ?_<|cc _ ?_<|cc _ ?_<|cc _ ?_<|cc _ ?_<|cc _ ?_<|cc _ ?_<|cc _ ?_ c0<;>(intros;simp_all;done)) ?_
   refine Be (q:=b10||((decide (d.kind=6))&&(decide (2 < (d.args.length:Int))))) (by kernel_rfl) (fun c5=>?_) (fun c5=>?_)
   ·subst hb10 hb9
    try simp only[Ao] at c5
    refine Aa [] [2] ?_
    refine Ac ?_
    refine RK wR [(.bool false)] ?_
    refine Same.of_eq ?_
    simp only[Ai]
    rw[Kj c1,X0e (by omega)]
    rfl
   ·subst hb10 hb9
    try simp only[Ao] at c5
    have hfb:Fx d.kind d.name d.op d.evr d.args.length=false:=X0d (by rcases c4 with⟨⟨⟨⟨⟨h1,h2⟩,h3⟩,h4⟩,h5⟩,h6⟩;simp[h3,h4,h5];omega) (by omega)
    refine Ah ?_
    refine Ab ?_
    refine Aa [] [1,6,7] ?_
    refine Ax ?_
    refine B4 (fun g y=>∃(i:Nat),i≤d.args.length∧argsForm d.kind d.args=argsForm d.kind (d.args.drop i)∧y=⟨[(1,(.fp (.agg [(.int .i64 d.kind),(.str d.name),(.int .i64 d.op),(.str d.evr),(.row 5 d.args.length (depAt d.args))]))),(6,(.int .i64 ((d.args.length:Int)))),(7,(.int .i64 ((i:Int))))],[],1⟩∧g=d.args.length-i) [1,6,7] 1 _ (by omega) ⟨0,(by omega),(by rfl),(by kernel_rfl),rfl⟩ ?_
    rintro g1 y1 ⟨i,f1_1,f1_2,rfl,rfl⟩
    refine Ab ?_
    refine Aa [] [1,6,7,96] ?_
    refine Ba (p:=(i:Int) < (d.args.length:Int)) (by kernel_rfl) (fun c6=>?_) (fun c6=>?_)
    ·refine Ah ?_
     refine Ab ?_
     refine Ax ?_
     refine Ae [] [1,6,7,8] [] hk0 (vk 3 100 (Io d.args)<|v0) (cc 3 (p:=(0≤(i:Int)∧i < d.args.length)) (by omega)<|c0) ?_
     refine Ab ?_
     obtain⟨b11,hb11⟩:∃b,b=(decide (5≤d.kind)):=⟨_,rfl⟩
     obtain⟨b12,hb12⟩:∃b,b=(b11&&(!decide (((nth d.args i).kind)=1))):=⟨_,rfl⟩
     obtain⟨b13,hb13⟩:∃b,b=(b12&&(!decide (((nth d.args i).kind)=5))):=⟨_,rfl⟩
     refine Ae (CS:=[(5,(b11=true→b11=true)),(6,(b11=true→b11=true)),(9,(b12=true→b12=true)),(10,(b12=true→b12=true)),(13,(b13=true→b13=true)),(14,(b13=true→b13=true))]) [109,110,113,114,117,118] [1,6,7,119] [] hk0 (vk 4 108 (a:=.bool (decide (5≤d.kind))) (b:=.bool b11) (Imp.of_eq (by rw[hb11]))<|vk 8 112 (a:=.bool (b11&&(!decide (((nth d.args i).kind)=1)))) (b:=.bool b12) (Imp.of_eq (by rw[hb12]))<|vk 12 116 (a:=.bool (b12&&(!decide (((nth d.args i).kind)=5)))) (b:=.bool b13) (Imp.of_eq (by rw[hb13]))<|v0) (by refine cc _ ?_<|cc _ ?_<|cc _ ?_<|cc _ ?_<|cc _ ?_<|cc _ ?_ c0<;>simp) ?_
     refine Be (q:=b13&&(!decide (((nth d.args i).kind)=6))) (by kernel_rfl) (fun c7=>?_) (fun c7=>?_)
     ·subst hb13 hb12 hb11
      try simp only[Ao] at c7
      refine Aa [] [2] ?_
      refine Ac ?_
      refine RK wR [(.bool false)] ?_
      refine Same.of_eq ?_
      simp only[Ai]
      rw[Kj c1,hfb,f1_2,Ub (by omega),Q81 (by omega)]
      rfl
     ·subst hb13 hb12 hb11
      try simp only[Ao] at c7
      refine Ah ?_
      refine Ae [] [1,6,7,9] [] (hk 5 Q00 (ih i (by omega))<|hk0) (vk 3 121 (Io d.args)<|v0) (cc 3 (p:=(0≤(i:Int)∧i < d.args.length)) (by omega)<|c0) ?_
      refine Aa [] [1,6,7,127] ?_
      refine Be (q:=!(Cb (nth d.args i))) (by kernel_rfl) (fun c8=>?_) (fun c8=>?_)
      ·try simp only[Ao] at c8
       refine Aa [] [2] ?_
       refine Ac ?_
       refine RK wR [(.bool false)] ?_
       refine Same.of_eq ?_
       simp only[Ai]
       rw[Kj c1,hfb,f1_2,Ub (by omega),Yr (by omega),c8]
       rfl
      ·try simp only[Ao] at c8
       refine Ah ?_
       refine Ar ?_
       refine Aw 0 [] [1,6,7] [] hk0 v0 (cc 1 (p:=(-9223372036854775808≤(i:Int)+1∧(i:Int)+1≤9223372036854775807)) (by omega)<|c0) ?_
       refine⟨by kernel_rfl,_,?_,i+1,?_,?_,(by kernel_rfl),rfl⟩
       ·omega
       ·omega
       ·rw[f1_2,Ub (by omega),Yr (by omega),c8];rfl
    ·refine Bq ?_
     refine Aa [] [2] ?_
     refine Ac ?_
     refine RK wR [(.bool true)] ?_
     refine Same.of_eq ?_
     simp only[Ai]
     rw[Kj c1,hfb,f1_2,List.drop_of_length_le (by omega)]
     rfl
theorem Q6b (d:DepT):d.size≤4194304→FnV Tryz.prog 107 [Am d] (.bool (Cb d)) :=
 Ns (C:=fun d=>d.size≤4194304→FnV Tryz.prog 107 [Am d] (.bool (Cb d))) (fun d ih hs=>Q6c d hs fun i hi=>ih i hi (by have:=Jz hi;omega)) d
theorem Q6y (d : DepT) (hs : d.size ≤ 4194304) (ih : ∀ i, i < d.args.length → FnV Tryz.prog 108 [Am (nth d.args i)] (.int .i64 (Dq (nth d.args i) : Int))) :
  FnV Tryz.prog 108 [(.agg [(.int .i64 d.kind),(.str d.name),(.int .i64 d.op),(.str d.evr),(.row 5 d.args.length (depAt d.args))])] (.int .i64 ((Dq d:Int))):=by
 have hda:=Gu d
 have hal:=Em d.args
 refine A1 [.tmp 2] Tryz.func108 rfl Tryz.ntmps108 rfl rfl (fun B F hF=>?_)
 refine Ae [] [1] [(1,1)] hk0 v0 c0 ?_
 refine Ab ?_
 refine Aa [] [1,7] ?_
 refine Ba (p:=d.kind=1) (by kernel_rfl) (fun c1=>?_) (fun c1=>?_)
 ·refine Aa [] [2] ?_
  refine Ac ?_
  refine RK wR [(.int .i64 1)] ?_
  refine Same.of_eq ?_
  simp only[Ai]
  rw[Q60 c1]
  rfl
 ·refine Ah ?_
  refine Aa [] [1,3] ?_
  refine Ab ?_
  refine Aa [] [1,3,4] ?_
  refine Ax ?_
  refine B4 (fun g y=>∃(i:Nat),i≤d.args.length∧y=⟨[(1,(.fp (.agg [(.int .i64 d.kind),(.str d.name),(.int .i64 d.op),(.str d.evr),(.row 5 d.args.length (depAt d.args))]))),(3,(.int .i64 ((argsParts (d.args.take i):Int)))),(4,(.int .i64 ((i:Int))))],[],1⟩∧g=d.args.length-i) [1,3,4] 1 _ (by omega) ⟨0,(by omega),(by kernel_rfl),rfl⟩ ?_
  rintro g1 y1 ⟨i,f1_1,rfl,rfl⟩
  have hb1:=argsParts_le (d.args.take i)
  have hb2:=fun h=>Ua (l:=d.args) (i:=i) h
  have hb3:=Wy (nth d.args i)
  refine Ab ?_
  refine Aa [] [1,3,4,12] ?_
  refine Ba (p:=(i:Int) < (d.args.length:Int)) (by kernel_rfl) (fun c2=>?_) (fun c2=>?_)
  ·refine Ah ?_
   refine Ab ?_
   refine Ax ?_
   refine Ar ?_
   refine Aw (CS:=[(4,(0≤(i:Int)∧i < d.args.length)),(7,(-9223372036854775808≤(argsParts (d.args.take i):Int)+(Dq (nth d.args i):Int)∧(argsParts (d.args.take i):Int)+(Dq (nth d.args i):Int)≤9223372036854775807))]) 0 [] [1,3,4] [] (hk 6 Q0z (ih i (by omega))<|hk0) (vk 4 17 (Io d.args)<|v0) (by refine cc _ ?_<|cc _ ?_ c0<;>omega) ?_
   refine Ar ?_
   refine Aw 0 [] [1,3,4] [] hk0 v0 (cc 1 (p:=(-9223372036854775808≤(i:Int)+1∧(i:Int)+1≤9223372036854775807)) (by omega)<|c0) ?_
   refine⟨by kernel_rfl,_,?_,i+1,?_,(Eq.trans (b:=(⟨[(1,(.fp (.agg [(.int .i64 d.kind),(.str d.name),(.int .i64 d.op),(.str d.evr),(.row 5 d.args.length (depAt d.args))]))),(3,(.int .i64 ((argsParts (d.args.take i):Int)+(Dq (nth d.args i):Int)))),(4,(.int .i64 ((i:Int)+1)))],[],1⟩:St)) (by kernel_rfl) (by rw[X4j (by omega)];rfl)),rfl⟩
   ·omega
   ·omega
  ·refine Bq ?_
   refine Aa [] [2] ?_
   refine Ac ?_
   refine RK wR [(.int .i64 ((argsParts (d.args.take i):Int)))] ?_
   refine Same.of_eq ?_
   simp only[Ai]
   rw[Q61 c1,List.take_of_length_le (by omega)]
theorem Q6z (d:DepT):d.size≤4194304→FnV Tryz.prog 108 [Am d] (.int .i64 (Dq d:Int)) :=
 Ns (C:=fun d=>d.size≤4194304→FnV Tryz.prog 108 [Am d] (.int .i64 (Dq d:Int))) (fun d ih hs=>Q6y d hs fun i hi=>ih i hi (by have:=Jz hi;omega)) d
def Fg (d:DepT):Nat:=if d.kind=1 then 1 else 0
theorem X3e (l : List UInt8) (m : Nat) (hm : m ≤ 9000000) :
  Fc Tryz.prog 157 [(.str l),(.ptr 0 0)] [(0,(.row [(.int .i64 (((m:Nat):Int)))] 3))] 1 (.tup []) [(0,(.row [(.int .i64 (((m+1:Nat):Int)))] 3))]:=by
 refine Kz [] Tryz.func157 rfl Tryz.ntmps157 rfl rfl (by kernel_rfl) (by kernel_rfl) (by kernel_rfl) (fun B F hF=>?_)
 refine Ar ?_
 refine Aw 0 [] [] [] hk0 v0 (cc 1 (p:=(-9223372036854775808≤((m:Nat):Int)+1∧((m:Nat):Int)+1≤9223372036854775807)) (by omega)<|c0) ?_
 refine D0 (.inr rfl) (al:=[]) (by kernel_rfl) ?_ ((by kernel_rfl:Cj 1 _=some [(0,(.row [(.int .i64 (((m:Nat):Int)+1))] 3))]).trans ?_)
 ·rfl
 ·rfl
theorem X40 (d : DepT) (m : Nat) (hs : m + d.size ≤ 8388608) (ih : ∀ i m, i < d.args.length → m + (nth d.args i).size ≤ 8388608 → Fc Tryz.prog 156 [Am (nth d.args i), .fn 157 [] [.ptr 0 0]] [(0, .row [.int .i64 ((m : Nat) : Int)] 3)] 1 (.tup []) [(0, .row [.int .i64 ((m + Ea (nth d.args i) : Nat) : Int)] 3)]) :
  Fc Tryz.prog 156 [(.agg [(.int .i64 d.kind),(.str d.name),(.int .i64 d.op),(.str d.evr),(.row 5 d.args.length (depAt d.args))]),(.fn 157 [] [(.ptr 0 0)])] [(0,(.row [(.int .i64 (((m:Nat):Int)))] 3))] 1 (.tup []) [(0,(.row [(.int .i64 (((m+Ea d:Nat):Int)))] 3))]:=by
 have hda:=Gu d
 have hal:=Em d.args
 have ho:Fg d≤1:=by unfold Fg;split<;>omega
 refine Kz [] Tryz.func156 rfl Tryz.ntmps156 rfl rfl (by kernel_rfl) (by kernel_rfl) (by kernel_rfl) (fun B F hF=>?_)
 refine Aa [] [1,2] ?_
 refine Qx 2 (y:=⟨[(1,(.fn 157 [] [(.ptr 0 0)])),(2,(.fp (.agg [(.int .i64 d.kind),(.str d.name),(.int .i64 d.op),(.str d.evr),(.row 5 d.args.length (depAt d.args))])))],[(0,(.row [(.int .i64 (((m:Nat):Int)))] 3))],2⟩) (by kernel_rfl) ?_
 refine Db (fun y=>y=⟨[(1,(.fn 157 [] [(.ptr 0 0)])),(2,(.fp (.agg [(.int .i64 d.kind),(.str d.name),(.int .i64 d.op),(.str d.evr),(.row 5 d.args.length (depAt d.args))])))],[(0,(.row [(.int .i64 (((m+Fg d:Nat):Int)))] 3))],2⟩) [1,2] 2 (by omega) ?_ ?_
 ·refine Aa [] [1,2,8] ?_
  refine Ba (p:=d.kind=1) (by kernel_rfl) (fun c1=>?_) (fun c1=>?_)
  ·refine Ar ?_
   refine Bm 3 0 [] [1,2,9,11] [] hk0 v0 c0 ?_
   refine Q4 [0] (f:=157) (cap:=[(.ptr 0 0)]) (al:=[(.str d.name)]) (al':=[(.str d.name),(.ptr 0 0)]) (r:=(.tup [])) (r':=(.tup [])) (s':=[(1,(.fn 157 [] [(.ptr 0 0)])),(2,(.fp (.agg [(.int .i64 d.kind),(.str d.name),(.int .i64 d.op),(.str d.evr),(.row 5 d.args.length (depAt d.args))]))),(9,(.fn 157 [] [(.ptr 0 0)])),(11,(.str d.name)),(12,(.tup []))]) (H:=[(0,(.row [(.int .i64 (((m:Nat):Int)))] 3))]) (H':=[(0,(.row [(.int .i64 (((m+1:Nat):Int)))] 3))]) (h2:=[(0,(.row [(.int .i64 (((m+1:Nat):Int)))] 3))]) (by kernel_rfl) (by kernel_rfl) (by exact X19) (by kernel_rfl) (by kernel_rfl) (by kernel_rfl) (by kernel_rfl) (by kernel_rfl) (X3e d.name m (by omega)) (by kernel_rfl) (by kernel_rfl) (by kernel_rfl) ?_
   refine Bo ?_
   refine⟨by kernel_rfl,(Eq.trans (b:=(⟨[(1,(.fn 157 [] [(.ptr 0 0)])),(2,(.fp (.agg [(.int .i64 d.kind),(.str d.name),(.int .i64 d.op),(.str d.evr),(.row 5 d.args.length (depAt d.args))])))],[(0,(.row [(.int .i64 (((m+1:Nat):Int)))] 3))],2⟩:St)) (by kernel_rfl) (by unfold Fg;rw[if_pos c1]))⟩
  ·refine Ah ?_
   refine⟨by kernel_rfl,(Eq.trans (b:=(⟨[(1,(.fn 157 [] [(.ptr 0 0)])),(2,(.fp (.agg [(.int .i64 d.kind),(.str d.name),(.int .i64 d.op),(.str d.evr),(.row 5 d.args.length (depAt d.args))])))],[(0,(.row [(.int .i64 (((m:Nat):Int)))] 3))],2⟩:St)) (by kernel_rfl) (by unfold Fg;rw[if_neg c1];rfl))⟩
 ·rintro y1 rfl
  refine Aa [] [1,14,15,16] ?_
  refine Ax ?_
  refine Um 14 (Af 5 Am d.args) (by kernel_rfl) (Io d.args) ?_
  refine B4 (fun g y=>∃(i:Nat),i≤d.args.length∧y=⟨[(1,(.fn 157 [] [(.ptr 0 0)])),(14,(Af 5 Am d.args)),(15,(.int .i64 ((d.args.length:Int)))),(16,(.int .i64 ((i:Int))))],[(0,(.row [(.int .i64 (((m+Fg d+argsNames (d.args.take i):Nat):Int)))] 3))],2⟩∧g=d.args.length-i) [1,14,15,16] 2 _ (by omega) ⟨0,(by omega),(Eq.trans (b:=(⟨[(1,(.fn 157 [] [(.ptr 0 0)])),(14,(Af 5 Am d.args)),(15,(.int .i64 ((d.args.length:Int)))),(16,(.int .i64 0))],[(0,(.row [(.int .i64 (((m+Fg d:Nat):Int)))] 3))],2⟩:St)) (by kernel_rfl) (by simp only[List.take_zero,argsNames,Nat.add_zero];rfl)),rfl⟩ ?_
  rintro g1 y1 ⟨i,f1_1,rfl,rfl⟩
  have hb1:=argsNames_le (d.args.take i)
  have hb2:=fun h=>Ua (l:=d.args) (i:=i) h
  refine Aa [] [1,14,15,16,17] ?_
  refine Ab ?_
  refine Ba (p:=(i:Int) < (d.args.length:Int)) (by kernel_rfl) (fun c2=>?_) (fun c2=>?_)
  ·refine Ah ?_
   refine Ab ?_
   refine Ax ?_
   refine Ae [] [1,5,14,15,16] [] hk0 v0 (cc 0 (p:=(0≤(i:Int)∧i < d.args.length)) (by omega)<|c0) ?_
   refine Ar ?_
   refine Bm 2 0 [] [1,14,15,16,20,21] [(0,5)] hk0 v0 c0 ?_
   refine Dy [0] (al:=[(.agg [(.int .i64 ((nth d.args i).kind)),(.str ((nth d.args i).name)),(.int .i64 ((nth d.args i).op)),(.str ((nth d.args i).evr)),(.row 5 (nth d.args i).args.length (depAt (nth d.args i).args))]),(.fn 157 [] [(.ptr 0 0)])]) (al':=[(.agg [(.int .i64 ((nth d.args i).kind)),(.str ((nth d.args i).name)),(.int .i64 ((nth d.args i).op)),(.str ((nth d.args i).evr)),(.row 5 (nth d.args i).args.length (depAt (nth d.args i).args))]),(.fn 157 [] [(.ptr 0 0)])]) (r:=(.tup [])) (r':=(.tup [])) (s':=[(1,(.fn 157 [] [(.ptr 0 0)])),(14,(Af 5 Am d.args)),(15,(.int .i64 ((d.args.length:Int)))),(16,(.int .i64 ((i:Int)))),(20,(.agg [(.int .i64 ((nth d.args i).kind)),(.str ((nth d.args i).name)),(.int .i64 ((nth d.args i).op)),(.str ((nth d.args i).evr)),(.row 5 (nth d.args i).args.length (depAt (nth d.args i).args))])),(21,(.fn 157 [] [(.ptr 0 0)])),(22,(.tup []))]) (H:=[(0,(.row [(.int .i64 (((m+Fg d+argsNames (d.args.take i):Nat):Int)))] 3))]) (H':=[(0,(.row [(.int .i64 (((m+Fg d+argsNames (d.args.take i)+Ea (nth d.args i):Nat):Int)))] 3))]) (h2:=[(0,(.row [(.int .i64 (((m+Fg d+argsNames (d.args.take i)+Ea (nth d.args i):Nat):Int)))] 3))]) (by kernel_rfl) (by exact Q0s) (by kernel_rfl) (by kernel_rfl) (by kernel_rfl) (by kernel_rfl) (by kernel_rfl) (ih i (m+Fg d+argsNames (d.args.take i)) (by omega) (by have:=hb2 (by omega);omega)) (by kernel_rfl) (by kernel_rfl) (by kernel_rfl) ?_
   refine Bo ?_
   refine Ar ?_
   refine Aw 0 [] [1,14,15,16] [] hk0 v0 (cc 0 (p:=(-9223372036854775808≤(i:Int)+1∧(i:Int)+1≤9223372036854775807)) (by omega)<|c0) ?_
   refine⟨by kernel_rfl,_,?_,i+1,?_,(Eq.trans (b:=(⟨[(1,(.fn 157 [] [(.ptr 0 0)])),(14,(Af 5 Am d.args)),(15,(.int .i64 ((d.args.length:Int)))),(16,(.int .i64 ((i:Int)+1)))],[(0,(.row [(.int .i64 (((m+Fg d+argsNames (d.args.take i)+Ea (nth d.args i):Nat):Int)))] 3))],2⟩:St)) (by kernel_rfl) (by rw[X4k (by omega)];simp only[Nat.add_assoc];rfl)),rfl⟩
   all_goals omega
  ·refine Bq ?_
   refine D0 (.inr rfl) (al:=[]) (by kernel_rfl) ?_ ((by kernel_rfl:Cj 1 _=some [(0,(.row [(.int .i64 (((m+Fg d+argsNames (d.args.take i):Nat):Int)))] 3))]).trans ?_)
   ·rfl
   ·rw[Q71,List.take_of_length_le (by omega)];simp only[Fg,Nat.add_assoc]
theorem X4z (d:DepT):∀m,m+d.size≤8388608→Fc Tryz.prog 156 [Am d,.fn 157 [] [.ptr 0 0]] [(0,.row [.int .i64 ((m:Nat):Int)] 3)] 1 (.tup []) [(0,.row [.int .i64 ((m+Ea d:Nat):Int)] 3)] :=
 Ns (C:=fun d=>∀m,m+d.size≤8388608→Fc Tryz.prog 156 [Am d,.fn 157 [] [.ptr 0 0]] [(0,.row [.int .i64 ((m:Nat):Int)] 3)] 1 (.tup []) [(0,.row [.int .i64 ((m+Ea d:Nat):Int)] 3)]) (fun d ih m hs=>X40 d m hs fun i m hi h=>ih i hi m h) d
theorem Ra (d : DepT) (hs : d.size ≤ 4194304) :
  FnV Tryz.prog 121 [(.agg [(.int .i64 d.kind),(.str d.name),(.int .i64 d.op),(.str d.evr),(.row 5 d.args.length (depAt d.args))])] (.int .i64 (Bt d)):=by
 refine A1 [.tmp 2] Tryz.func121 rfl Tryz.ntmps121 rfl rfl (fun B F hF=>?_)
 refine Ae [] [1] [(1,1)] hk0 v0 c0 ?_
 refine Ab ?_
 refine Ae [] [1,6] [] (hk 1 Q0t (Q94 d hs)<|hk0) v0 c0 ?_
 refine Be (q:=!(Cb d)) (by kernel_rfl) (fun c1=>?_) (fun c1=>?_)
 ·try simp only[Ao] at c1
  refine Aa [] [2] ?_
  refine Ac ?_
  refine RK wR [(.int .i64 50)] ?_
  refine Same.of_eq ?_
  simp only[Ai]
  rw[Bt,c1]
  rfl
 ·try simp only[Ao] at c1
  refine Ah ?_
  refine Aa [] [1,3] ?_
  refine Ab ?_
  refine Ar ?_
  refine Bm 2 0 [] [3,7,8] [] hk0 v0 c0 ?_
  refine Dy [1] (al:=[(.agg [(.int .i64 d.kind),(.str d.name),(.int .i64 d.op),(.str d.evr),(.row 5 d.args.length (depAt d.args))]),(.fn 157 [] [(.ptr 1 0)])]) (al':=[(.agg [(.int .i64 d.kind),(.str d.name),(.int .i64 d.op),(.str d.evr),(.row 5 d.args.length (depAt d.args))]),(.fn 157 [] [(.ptr 0 0)])]) (r:=(.tup [])) (r':=(.tup [])) (s':=[(3,(.ptr 1 0)),(7,(.agg [(.int .i64 d.kind),(.str d.name),(.int .i64 d.op),(.str d.evr),(.row 5 d.args.length (depAt d.args))])),(8,(.fn 157 [] [(.ptr 1 0)])),(9,(.tup []))]) (H:=[(0,(.row [(.int .i64 0)] 3))]) (H':=[(0,(.row [(.int .i64 (((0+Ea d:Nat):Int)))] 3))]) (h2:=[(1,(.row [(.int .i64 (((0+Ea d:Nat):Int)))] 3))]) (by kernel_rfl) (by exact Q0s) (by kernel_rfl) (by kernel_rfl) (by kernel_rfl) (by kernel_rfl) (by kernel_rfl) (X4z d 0 (by omega)) (by kernel_rfl) (by kernel_rfl) (by kernel_rfl) ?_
  refine Bo ?_
  refine Ab ?_
  refine Aa [] [11] ?_
  refine Ba (p:=16 < ((0+Ea d:Nat):Int)) (by kernel_rfl) (fun c2=>?_) (fun c2=>?_)
  ·refine Aa [] [2] ?_
   refine Ac ?_
   refine RK wR [(.int .i64 51)] ?_
   refine Same.of_eq ?_
   simp only[Ai]
   rw[Bt,c1,if_pos rfl,if_pos (by have:=So d c1;omega)]
  ·refine Ah ?_
   refine Aa [] [2] ?_
   refine Ac ?_
   refine RK wR [(.int .i64 0)] ?_
   refine Same.of_eq ?_
   simp only[Ai]
   rw[Bt,c1,if_pos rfl,if_neg (by have:=So d c1;omega)]
theorem Q6g (d : DepT) (hs : d.size ≤ 4194304) :
  FnV Tryz.prog 61 [(.agg [(.int .i64 d.kind),(.str d.name),(.int .i64 d.op),(.str d.evr),(.row 5 d.args.length (depAt d.args))])] (.int .i64 (Bt d)):=by
 refine A1 [.tmp 2] Tryz.func61 rfl Tryz.ntmps61 rfl rfl (fun B F hF=>?_)
 refine Ae [] [1] [(1,1)] hk0 v0 c0 ?_
 refine Ae [] [1,3] [] (hk 1 Q00 (Q6b d hs)<|hk0) v0 c0 ?_
 refine Ab ?_
 refine Aa [] [1,7] ?_
 refine Be (q:=!(Cb d)) (by kernel_rfl) (fun c1=>?_) (fun c1=>?_)
 ·try simp only[Ao] at c1
  refine Aa [] [2] ?_
  refine Ac ?_
  refine RK wR [(.int .i64 50)] ?_
  refine Same.of_eq ?_
  simp only[Ai]
  rw[Bt,c1]
  rfl
 ·try simp only[Ao] at c1
  refine Ah ?_
  refine Ab ?_
  refine Ae [] [10] [] (hk 1 Q0z (Q6z d hs)<|hk0) v0 c0 ?_
  refine Ba (p:=16 < (Dq d:Int)) (by kernel_rfl) (fun c2=>?_) (fun c2=>?_)
  ·refine Aa [] [2] ?_
   refine Ac ?_
   refine RK wR [(.int .i64 51)] ?_
   refine Same.of_eq ?_
   simp only[Ai]
   rw[Bt,c1,if_pos rfl,if_pos (by omega)]
  ·refine Ah ?_
   refine Aa [] [2] ?_
   refine Ac ?_
   refine RK wR [(.int .i64 0)] ?_
   refine Same.of_eq ?_
   simp only[Ai]
   rw[Bt,c1,if_pos rfl,if_neg (by omega)]
end Sv
end
section
open Go Go.RowKit
namespace Sv
attribute [local irreducible] SW SO Bh
set_option maxHeartbeats 400000
set_option maxRecDepth 100000
theorem X2r:Aj Tryz.prog 113:=Ap Tryz.func113 (by kernel_rfl) rfl
theorem X02:Aj Tryz.prog 69:=Ap Tryz.func69 (by kernel_rfl) rfl
theorem Jh:Aj Tryz.prog 68:=Ap Tryz.func68 (by kernel_rfl) rfl
theorem Z9:Aj Tryz.prog 67:=Ap Tryz.func67 (by kernel_rfl) rfl
theorem Q0i:Aj Tryz.prog 29:=Ap Tryz.func29 (by kernel_rfl) rfl
theorem X00:Aj Tryz.prog 80:=Ap Tryz.func80 (by kernel_rfl) rfl
theorem Q0d:Aj Tryz.prog 37:=Ap Tryz.func37 (by kernel_rfl) rfl
theorem X3k (l : List (List UInt8)) (hl : l.length ≤ 4611686018427) :
  FnV Tryz.prog 69 [(B1 l)] (B1 l):=by
 refine A1 [.tmp 2] Tryz.func69 rfl Tryz.ntmps69 rfl rfl (fun B F hF=>?_)
 refine Aa [] [0] ?_
 refine Ab ?_
 refine Ab ?_
 refine Ar ?_
 refine Bm 1 0 [] [0,3] [] hk0 v0 c0 ?_
 refine Q20 (G:=Wd (B1 l)) (sz:=1) (m:=l.length) (e:=9) (by kernel_rfl) (by kernel_rfl) (by kernel_rfl) (by kernel_rfl) (fun nq1=>⟨[(0,(B1 l)),(3,(B1 l)),(4,(.bool nq1))],by kernel_rfl,fun hnq1=>?_⟩)
 refine Bo ?_
 refine Be (q:=nq1) (by kernel_rfl) (fun c1=>?_) (fun c1=>?_)
 ·try simp only[Ao] at c1
  refine Aa [] [2] ?_
  refine Ac ?_
  refine RK wR [.nils] ?_
  simp only[Ai]
  exact(Same.of_eq rfl).trans (Imp.same (by have:=hnq1 (by simp_all);have:l=[]:=List.length_eq_zero_iff.1 this;subst this;exact Imp.nil))
 ·try simp only[Ao] at c1
  refine Ah ?_
  refine Ae [] [2] [] hk0 v0 (cc 2 (p:=((([]:List AV).length+l.length)*16≤140737488355328)) (by(simp;omega))<|c0) ?_
  refine Ac ?_
  refine RK wR [(.row 1 (([]:List AV)++((List.range l.length).map (fun kx=>((.str (nth l kx)):AV)))).length (fun ix=>(([]:List AV)++((List.range l.length).map (fun kx=>((.str (nth l kx)):AV)))).getD ix Bl))] ?_
  simp only[Ai]
  exact Same.grown (f:=AV.str) (l:=l) (by simp[Wm])
theorem Xn (l : List DepT) (hs : argsSize l ≤ 4194304) (ih : ∀ i, i < l.length → FnV Tryz.prog 68 [C0 (nth l i).args] (.row 5 (nth l i).args.length (depAt (nth l i).args))) :
  FnV Tryz.prog 68 [(Af 5 Am l)] (.row 5 l.length (depAt l)):=by
 have hal:=Em l
 refine A1 [.tmp 2] Tryz.func68 rfl Tryz.ntmps68 rfl rfl (fun B F hF=>?_)
 refine Aa [] [0] ?_
 refine Ab ?_
 refine Ar ?_
 refine Bm 1 0 [] [5] [] hk0 v0 c0 ?_
 refine Q3 [.tmp 2] (al:=[(Af 5 Am l)]) (s0:=[(5,(Af 5 Am l))]) (by kernel_rfl) (by exact X2r) (by kernel_rfl) Tryz.func113 rfl Tryz.ntmps113 rfl (by kernel_rfl) (by kernel_rfl) (fun F1 hF1 hle1=>?_)
 refine Aa [] [0] ?_
 refine Ab ?_
 refine Ab ?_
 refine Ar ?_
 refine Bm 1 0 [] [0,3] [] hk0 v0 c0 ?_
 refine Q20 (G:=Wd (Af 5 Am l)) (sz:=5) (m:=l.length) (e:=67) (by kernel_rfl) (by kernel_rfl) (by kernel_rfl) (by kernel_rfl) (fun nq1_1=>⟨[(0,(Af 5 Am l)),(3,(Af 5 Am l)),(4,(.bool nq1_1))],by kernel_rfl,fun hnq1_1=>?_⟩)
 refine Bo ?_
 refine Be (q:=nq1_1) (by kernel_rfl) (fun c1=>?_) (fun c1=>?_)
 ·try simp only[Ao] at c1
  refine Aa [] [2] ?_
  refine Ac ?_
  refine M7 (.inl rfl) (al:=[.nils]) (s':=[(5,(Af 5 Am l)),(6,.nils)]) (by kernel_rfl) (by kernel_rfl) ?_
  refine Aw 2 [] [0] [] hk0 v0 c0 ?_
  refine Ab ?_
  refine Aa [] [0,7,8,9] ?_
  refine Ax ?_
  refine Qz 1 ?_
  refine Fb ?_
  refine Aa [] [0,7,8,9,10] ?_
  refine Ab ?_
  refine Dp (by kernel_rfl) ?_
  refine Bq ?_
  refine Aa [] [2] ?_
  refine Ac ?_
  refine RK wR [.nils] ?_
  have h0:l=[]:=List.length_eq_zero_iff.1 (hnq1_1 c1)
  subst h0
  exact(Same.nil (f:=Am)).trans (Jj []).same
 ·try simp only[Ao] at c1
  refine Ah ?_
  refine Ae [] [2] [] hk0 v0 (cc 2 (p:=((([]:List AV).length+l.length)*72≤140737488355328)) (by(simp;omega))<|c0) ?_
  refine Ac ?_
  refine M7 (.inl rfl) (al:=[(.own 1)]) (s':=[(5,(Af 5 Am l)),(6,(.own 1))]) (by kernel_rfl) (by kernel_rfl) ?_
  refine Aw 2 [] [0] [] hk0 v0 c0 ?_
  refine Ab ?_
  refine Aa [] [0,7,8,9] ?_
  refine Ax ?_
  refine B4 (fun g y=>∃(i:Nat),i≤l.length∧y=⟨[(0,(.own 1)),(7,(.own 1)),(8,(.int .i64 (((l.map Am).length:Int)))),(9,(.int .i64 ((i:Int))))],[(1,(.grow (l.map Am) 67 5))],2⟩∧g=l.length-i) [0,7,8,9] 2 _ (by omega) ⟨0,(by omega),(Eq.trans (b:=(⟨[(0,(.own 1)),(7,(.own 1)),(8,(.int .i64 (((([]:List AV)++((List.range l.length).map (fun kx=>((.agg [(.int .i64 ((nth l kx).kind)),(.str ((nth l kx).name)),(.int .i64 ((nth l kx).op)),(.str ((nth l kx).evr)),(.row 5 (nth l kx).args.length (depAt (nth l kx).args))]):AV)))).length:Int)))),(9,(.int .i64 0))],[(1,(.grow (([]:List AV)++((List.range l.length).map (fun kx=>((.agg [(.int .i64 ((nth l kx).kind)),(.str ((nth l kx).name)),(.int .i64 ((nth l kx).op)),(.str ((nth l kx).evr)),(.row 5 (nth l kx).args.length (depAt (nth l kx).args))]):AV)))) 67 5))],2⟩:St)) (by kernel_rfl) (by rw[show(([]:List AV)++((List.range l.length).map (fun kx=>((.agg [(.int .i64 ((nth l kx).kind)),(.str ((nth l kx).name)),(.int .i64 ((nth l kx).op)),(.str ((nth l kx).evr)),(.row 5 (nth l kx).args.length (depAt (nth l kx).args))]):AV))))=l.map Am from Q65 Am l];rfl)),rfl⟩ ?_
  rintro g2 y2 ⟨i,f2_1,rfl,rfl⟩
  have hlm:(l.map Am).length=l.length:=List.length_map _
  refine Aa [] [0,7,8,9,10] ?_
  refine Ab ?_
  refine Ba (p:=(i:Int) < ((l.map Am).length:Int)) (by kernel_rfl) (fun c2=>?_) (fun c2=>?_)
  ·refine Ah ?_
   refine Ab ?_
   refine Ax ?_
   refine Ab ?_
   refine Ar ?_
   refine Bm 1 0 [] [0,7,8,9,11] [] hk0 v0 c0 ?_
   refine Q2 (b:=1) (i:=i) (es:=l.map Am) (e:=67) (sz:=5) (k:=.i64) (s':=[(0,(.own 1)),(7,(.own 1)),(8,(.int .i64 (((l.map Am).length:Int)))),(9,(.int .i64 ((i:Int)))),(11,(.int .i64 ((i:Int)))),(12,(.op 1 (i*5)))]) (by kernel_rfl) (by kernel_rfl) (by kernel_rfl) (by kernel_rfl) (by kernel_rfl) (by kernel_rfl) (by first|(rw[List.length_map];omega)|simp_all) (by kernel_rfl) ?_
   refine Un (b:=1) (e:=67) (sz:=5) (es:=l.map Am) (o:=i*5) (i:=i) (j:=0) (a:=(.agg [(.int .i64 ((nth l i).kind)),(.str ((nth l i).name)),(.int .i64 ((nth l i).op)),(.str ((nth l i).evr)),(.row 5 (nth l i).args.length (depAt (nth l i).args))])) (r:=(.agg [(.int .i64 ((nth l i).kind)),(.str ((nth l i).name)),(.int .i64 ((nth l i).op)),(.str ((nth l i).evr)),(.row 5 (nth l i).args.length (depAt (nth l i).args))])) (s':=[(0,(.own 1)),(7,(.own 1)),(8,(.int .i64 (((l.map Am).length:Int)))),(9,(.int .i64 ((i:Int)))),(11,(.int .i64 ((i:Int)))),(12,(.op 1 (i*5))),(13,(.agg [(.int .i64 ((nth l i).kind)),(.str ((nth l i).name)),(.int .i64 ((nth l i).op)),(.str ((nth l i).evr)),(.row 5 (nth l i).args.length (depAt (nth l i).args))]))]) (by kernel_rfl) (by kernel_rfl) rfl (by kernel_rfl) (P3 (l:=l) Am (by omega)) (by kernel_rfl) (by kernel_rfl) ?_
   refine Aw 3 [] [0,3,4,7,8,9] [] hk0 v0 c0 ?_
   refine Ar ?_
   refine Bm 5 0 [] [0,7,8,9,14,15,18] [(0,4)] (hk 4 Jh (ih i (by omega))<|hk0) (vk 4 17 (Io (nth l i).args)<|v0) c0 ?_
   refine Q2 (b:=1) (i:=i) (es:=l.map Am) (e:=67) (sz:=5) (k:=.i64) (s':=[(0,(.own 1)),(7,(.own 1)),(8,(.int .i64 (((l.map Am).length:Int)))),(9,(.int .i64 ((i:Int)))),(14,(.own 1)),(15,(.int .i64 ((i:Int)))),(18,(.row 5 ((nth l i).args).length (depAt ((nth l i).args)))),(19,(.op 1 (i*5)))]) (by kernel_rfl) (by kernel_rfl) (by kernel_rfl) (by kernel_rfl) (by kernel_rfl) (by kernel_rfl) (by first|(rw[List.length_map];omega)|simp_all) (by kernel_rfl) ?_
   refine Uo (b:=1) (o:=i*5) (off:=4) (s':=[(0,(.own 1)),(7,(.own 1)),(8,(.int .i64 (((l.map Am).length:Int)))),(9,(.int .i64 ((i:Int)))),(14,(.own 1)),(15,(.int .i64 ((i:Int)))),(18,(.row 5 ((nth l i).args).length (depAt ((nth l i).args)))),(19,(.op 1 (i*5))),(20,(.op 1 (i*5+4)))]) (by kernel_rfl) (by kernel_rfl) (by kernel_rfl) (by kernel_rfl) ?_
   refine X59 (b:=1) (e:=67) (sz:=5) (es:=l.map Am) (o:=i*5+4) (i:=i) (j:=4) (a:=(.agg [(.int .i64 ((nth l i).kind)),(.str ((nth l i).name)),(.int .i64 ((nth l i).op)),(.str ((nth l i).evr)),(.row 5 (nth l i).args.length (depAt (nth l i).args))])) (r:=(.agg [(.int .i64 ((nth l i).kind)),(.str ((nth l i).name)),(.int .i64 ((nth l i).op)),(.str ((nth l i).evr)),(.row 5 ((nth l i).args).length (depAt ((nth l i).args)))])) (v:=(.row 5 ((nth l i).args).length (depAt ((nth l i).args)))) (s':=[(0,(.own 1)),(7,(.own 1)),(8,(.int .i64 (((l.map Am).length:Int)))),(9,(.int .i64 ((i:Int)))),(14,(.own 1)),(15,(.int .i64 ((i:Int)))),(18,(.row 5 ((nth l i).args).length (depAt ((nth l i).args)))),(19,(.op 1 (i*5))),(20,(.op 1 (i*5+4)))]) (by kernel_rfl) (by kernel_rfl) rfl (by kernel_rfl) (by kernel_rfl) (P3 (l:=l) Am (by omega)) (by kernel_rfl) (by kernel_rfl) ?_
   refine Bo ?_
   refine Ar ?_
   refine Aw 0 [] [0,7,8,9] [] hk0 v0 (cc 0 (p:=(-9223372036854775808≤(i:Int)+1∧(i:Int)+1≤9223372036854775807)) (by omega)<|c0) ?_
   refine⟨by kernel_rfl,_,?_,i+1,?_,(Eq.trans (b:=(⟨[(0,(.own 1)),(7,(.own 1)),(8,(.int .i64 (((l.map Am).length:Int)))),(9,(.int .i64 ((i:Int)+1)))],[(1,(.grow ((l.map Am).set i (.agg [(.int .i64 ((nth l i).kind)),(.str ((nth l i).name)),(.int .i64 ((nth l i).op)),(.str ((nth l i).evr)),(.row 5 ((nth l i).args).length (depAt ((nth l i).args)))])) 67 5))],2⟩:St)) (by kernel_rfl) (congrArg (fun es=>St.mk _ [(1,AO.grow es _ _)] _) (Q47 Am l i))),rfl⟩
   all_goals omega
  ·refine Bq ?_
   refine Aa [] [2] ?_
   refine Ac ?_
   refine RK wR [(.row 5 (l.map Am).length (fun ix=>(l.map Am).getD ix Bl))] ?_
   simp only[Ai]
   exact(Same.grown (f:=Am) (l:=l) rfl).trans (Jj l).same
theorem Q66 (l:List DepT):argsSize l≤4194304→FnV Tryz.prog 68 [C0 l] (.row 5 l.length (depAt l)):=by
 have key:∀n (l:List DepT),argsSize l≤n→argsSize l≤4194304→FnV Tryz.prog 68 [C0 l] (.row 5 l.length (depAt l)):=by
  intro n
  induction n with
  |zero=>exact fun l h hs=>Xn l hs fun i hi=>by have:=Q1z hi;omega
  |succ n ih=>exact fun l h hs=>Xn l hs fun i hi=>by have:=Q1z hi;exact ih _ (by omega) (by omega)
 exact key _ l (Nat.le_refl _)
theorem J8 (l:List DepT) (hs:argsSize l≤4194304):FnV Tryz.prog 68 [C0 l] (C0 l):=(Q66 l hs).to (Io l).same
theorem Q1d (p : PkgT) (hs : p.depSize ≤ 4194304) (hf : p.files.length ≤ 4611686018427) :
  FnV Tryz.prog 29 [(An p)] (An p):=by
 unfold PkgT.depSize at hs
 refine A1 [.cell 2 42] Tryz.func29 rfl Tryz.ntmps29 rfl rfl (fun B F hF=>?_)
 refine Aa [] [1,2] ?_
 refine Ab ?_
 refine Ab ?_
 refine Ar ?_
 refine Q3 [.tmp 2] (al:=[(.ptr 0 0)]) (s0:=[(1,(.ptr 0 0)),(2,(.ptr 1 0))]) (by kernel_rfl) (by exact Z9) (by kernel_rfl) Tryz.func67 rfl Tryz.ntmps67 rfl (by kernel_rfl) (by kernel_rfl) (fun F1 hF1 hle1=>?_)
 refine Aa [] [0] ?_
 refine Cv [] [2] [] hk0 v0 c0 ?_
 refine Ac ?_
 refine M7 (.inl rfl) (al:=[(.sl 2 0 7 7 false)]) (s':=[(1,(.ptr 0 0)),(2,(.ptr 1 0)),(5,(.sl 2 0 7 7 false))]) (by kernel_rfl) (by kernel_rfl) ?_
 refine Aw 1 [] [1,2,5,6,7] [] hk0 v0 c0 ?_
 refine Ax ?_
 refine Qz 8 ?_
 refine Fb ?_
 refine Aa [] [1,2,5,6,7,8] ?_
 refine Ab ?_
 refine Hc (by kernel_rfl) ?_
 refine Ah ?_
 refine Ab ?_
 refine Ax ?_
 refine Aa [] [1,2,4,5,6,7] ?_
 refine Ar ?_
 refine Aw 0 [] [1,2,5,6,7] [] (hk 4 Jh (J8 p.provides (by omega))<|hk0) v0 c0 ?_
 refine Ar ?_
 refine Aw 0 [] [1,2,5,6,7] [] hk0 v0 (cc 0 (p:=(-9223372036854775808≤(1:Int)∧(1:Int)≤9223372036854775807)) (by omega)<|c0) ?_
 refine Fb ?_
 refine Aa [] [1,2,5,6,7,8] ?_
 refine Ab ?_
 refine Hc (by kernel_rfl) ?_
 refine Ah ?_
 refine Ab ?_
 refine Ax ?_
 refine Aa [] [1,2,4,5,6,7] ?_
 refine Ar ?_
 refine Aw 0 [] [1,2,5,6,7] [] (hk 4 Jh (J8 p.requires (by omega))<|hk0) v0 c0 ?_
 refine Ar ?_
 refine Aw 0 [] [1,2,5,6,7] [] hk0 v0 (cc 0 (p:=(-9223372036854775808≤(2:Int)∧(2:Int)≤9223372036854775807)) (by omega)<|c0) ?_
 refine Fb ?_
 refine Aa [] [1,2,5,6,7,8] ?_
 refine Ab ?_
 refine Hc (by kernel_rfl) ?_
 refine Ah ?_
 refine Ab ?_
 refine Ax ?_
 refine Aa [] [1,2,4,5,6,7] ?_
 refine Ar ?_
 refine Aw 0 [] [1,2,5,6,7] [] (hk 4 Jh (J8 p.pre (by omega))<|hk0) v0 c0 ?_
 refine Ar ?_
 refine Aw 0 [] [1,2,5,6,7] [] hk0 v0 (cc 0 (p:=(-9223372036854775808≤(3:Int)∧(3:Int)≤9223372036854775807)) (by omega)<|c0) ?_
 refine Fb ?_
 refine Aa [] [1,2,5,6,7,8] ?_
 refine Ab ?_
 refine Hc (by kernel_rfl) ?_
 refine Ah ?_
 refine Ab ?_
 refine Ax ?_
 refine Aa [] [1,2,4,5,6,7] ?_
 refine Ar ?_
 refine Aw 0 [] [1,2,5,6,7] [] (hk 4 Jh (J8 p.conflicts (by omega))<|hk0) v0 c0 ?_
 refine Ar ?_
 refine Aw 0 [] [1,2,5,6,7] [] hk0 v0 (cc 0 (p:=(-9223372036854775808≤(4:Int)∧(4:Int)≤9223372036854775807)) (by omega)<|c0) ?_
 refine Fb ?_
 refine Aa [] [1,2,5,6,7,8] ?_
 refine Ab ?_
 refine Hc (by kernel_rfl) ?_
 refine Ah ?_
 refine Ab ?_
 refine Ax ?_
 refine Aa [] [1,2,4,5,6,7] ?_
 refine Ar ?_
 refine Aw 0 [] [1,2,5,6,7] [] (hk 4 Jh (J8 p.obsoletes (by omega))<|hk0) v0 c0 ?_
 refine Ar ?_
 refine Aw 0 [] [1,2,5,6,7] [] hk0 v0 (cc 0 (p:=(-9223372036854775808≤(5:Int)∧(5:Int)≤9223372036854775807)) (by omega)<|c0) ?_
 refine Fb ?_
 refine Aa [] [1,2,5,6,7,8] ?_
 refine Ab ?_
 refine Hc (by kernel_rfl) ?_
 refine Ah ?_
 refine Ab ?_
 refine Ax ?_
 refine Aa [] [1,2,4,5,6,7] ?_
 refine Ar ?_
 refine Aw 0 [] [1,2,5,6,7] [] (hk 4 Jh (J8 p.recommends (by omega))<|hk0) v0 c0 ?_
 refine Ar ?_
 refine Aw 0 [] [1,2,5,6,7] [] hk0 v0 (cc 0 (p:=(-9223372036854775808≤(6:Int)∧(6:Int)≤9223372036854775807)) (by omega)<|c0) ?_
 refine Fb ?_
 refine Aa [] [1,2,5,6,7,8] ?_
 refine Ab ?_
 refine Hc (by kernel_rfl) ?_
 refine Ah ?_
 refine Ab ?_
 refine Ax ?_
 refine Aa [] [1,2,4,5,6,7] ?_
 refine Ar ?_
 refine Aw 0 [] [1,2,5,6,7] [] (hk 4 Jh (J8 p.supplements (by omega))<|hk0) v0 c0 ?_
 refine Ar ?_
 refine Aw 0 [] [1,2,5,6,7] [] hk0 v0 (cc 0 (p:=(-9223372036854775808≤(7:Int)∧(7:Int)≤9223372036854775807)) (by omega)<|c0) ?_
 refine Fb ?_
 refine Aa [] [1,2,5,6,7,8] ?_
 refine Ab ?_
 refine Dp (by kernel_rfl) ?_
 refine Bq ?_
 refine Ae [] [1,2] [] (hk 2 X02 (X3k p.files hf)<|hk0) v0 c0 ?_
 refine Aa [] [2] ?_
 refine Ac ?_
 refine RK wR [(An p)] ?_
 exact Same.of_eq rfl
end Sv
end
section
open Go Go.RowKit
namespace Sv
theorem Zb {l:List UInt8} {p:Nat→Bool} (hp:∀r,128≤r→p r=true):∀(fuel pos:Nat),l.length≤pos+fuel→decide (Lib.idxFuncFrom p true ⟨l.toArray⟩ fuel pos < 0)=(l.drop pos).all (fun b => !p b.toNat)
  |0,pos,h=>by
    rw[List.drop_of_length_le (by omega)];rfl
  |fuel+1,pos,h=>by
    have hsz:(⟨l.toArray⟩:ByteArray).size=l.length:=F9 l
    by_cases hpos:pos < l.length
    · have hdrop : l.drop pos = Ag l pos :: l.drop (pos + 1) := by
        rw[List.drop_eq_getElem_cons hpos,Jk hpos]
      rw[hdrop,List.all_cons]
      simp only[Lib.idxFuncFrom,hsz,hpos,if_true]
      by_cases ha:(Ag l pos).toNat < 128
      · rw[X3b hpos ha]
        simp only
        cases hc:p (Ag l pos).toNat with
        |true=>simp
        |false =>
          have:=Zb (l:=l) hp fuel (pos+1) (by omega)
          simpa using this
      · have hh:=X3a hpos (by omega)
        have h1:=hp _ hh.1
        have h2:=hp (Ag l pos).toNat (by omega)
        rw[h1,h2];simp
    · rw[List.drop_of_length_le (by omega)]
      have:¬pos < (⟨l.toArray⟩:ByteArray).size:=by rw[hsz];exact hpos
      simp[Lib.idxFuncFrom,this]
theorem Za {l:List UInt8} {p:Nat→Bool} (hp:∀r,128≤r→p r=true):decide (Lib.idxFunc p true ⟨l.toArray⟩ < 0)=l.all (fun b => !p b.toNat):=by
  have:=Zb (l:=l) hp l.length 0 (by omega)
  rw[List.drop_zero] at this
  rw[←this]
  unfold Lib.idxFunc
  rw[show(⟨l.toArray⟩:ByteArray).size=l.length from F9 l]
theorem Q3f (s : List UInt8) (g : Nat) (cap : List AV) (p : Nat → Bool) (he : Aj Tryz.prog g) (hc : frzl cap = true) (h : ∀ x : Nat, x ≤ 1114111 → FnV Tryz.prog g (.int .i32 x :: cap) (.bool (p x))) :
    FnV Tryz.prog 84 [.str s,.fn g [] cap] (.int .i64 (Lib.idxFunc p true ⟨s.toArray⟩)):=by
  intro F w vs hF hv
  obtain⟨v,r1,rfl,h1,hv⟩:=hv.cons_inv
  obtain⟨v2,rfl,h2⟩:=hv.single_inv
  simp only[VR] at h1 h2
  subst h1
  obtain⟨vf,vc,q1,q2,rfl⟩:=h2
  rw[q1.nil_inv]
  refine(Tryz.strings_IndexFunc_grows g vc.toArray (fun args w=>he args w) p ⟨s.toArray⟩ w ?_).mono ?_
  · intro W x hx hb
    have hF':Fro F W:=fun b o e=>(hb.block b (C9 (hF b o e))).trans (hF b o e)
    have key:Calls Tryz.prog g (Value.int .i32 x::vc).toArray W (fun e w'=>e = .returned (.bool (p x))∧Below W.heap.size W w'):=by
      refine(h x hx F W (.int .i32 x::vc) hF' (.cons (by simp only[VR]) q2)).mono ?_
      rintro e w' ⟨v,he,hb',F',_,_,_,hr⟩
      simp only[VR] at hr;subst hr
      exact⟨he,hb'⟩
    have e:(#[Proofs.encR x]++vc.toArray)=(Value.int .i32 x::vc).toArray:=by apply Array.ext';simp[Proofs.encR]
    rw[e];exact key
  · rintro e w' ⟨he,hb⟩
    exact⟨_,he,hb,F,fun _ _ e=>e,fun b o e=>(hb.block b (C9 (hF b o e))).trans (hF b o e),fun _ _ e => .inl e,by simp only[VR]⟩
theorem Kx (s:List UInt8) (c:UInt8) (hl:s.length≤9223372036854775807):FnV Tryz.prog 90 [.str s,.str [c]] (.bool (A8 s c)):=by
  intro F w vs hF hv
  obtain⟨v,r1,rfl,h1,hv⟩:=hv.cons_inv
  obtain⟨v2,rfl,h2⟩:=hv.single_inv
  simp only[VR] at h1 h2
  subst h1 h2
  refine(X7g s c w hl).mono ?_
  rintro e w' ⟨v,he,rfl,rfl⟩
  exact⟨_,he,Below.refl _ _,F,fun _ _ e=>e,hF,fun _ _ e => .inl e,by simp only[VR]⟩
theorem Q77 {l:List UInt8} (h:Bc l=true):0 < l.length:=by
  cases l with
  |nil=>exact absurd h (by decide)
  |cons a r=>simp
theorem X4n {α:Type} {l:List α} (p:α→Bool):(l.any fun x => !p x) = !l.all p:=by
  induction l with
  |nil=>rfl
  |cons a r ih=>simp only[List.any_cons,List.all_cons,ih,Bool.not_and]
end Sv
end
section
open Go Go.RowKit
namespace Sv
attribute [local irreducible] SW SO Bh
set_option maxHeartbeats 1000000
set_option maxRecDepth 100000
theorem Vg:∀s:List UInt8,Lib.trimLeftB s 32=Br s
 |[]=>rfl
 |c::r=>by
  have ih:=Vg r
  unfold Lib.trimLeftB at ih ⊢
  unfold Br
  by_cases h:c=32
  ·simp[h,ih]
  ·simp[h]
theorem X50 (s:List UInt8):FnV Tryz.prog 153 [.str s,.str [32]] (.str (Br s)):=by
 rw[←Vg];exact Uk s 32 (by decide)
theorem Mx (txt wd : List UInt8) (hl : txt.length ≤ 8388608) :
  Fc Tryz.prog 118 [(.ptr 0 0)] [(0,(.row [(.str txt),(.str wd)] 158))] 1 (.tup []) [(0,(.row [(.str ((Ad txt).2)),(.str ((Ad txt).1))] 158))]:=by
 have hsl:=Ow txt
 refine Kz [] Tryz.func118 rfl Tryz.ntmps118 rfl rfl (by kernel_rfl) (by kernel_rfl) (by kernel_rfl) (fun B F hF=>?_)
 refine Qy 0 rfl (fun g y=>∃(m:Nat),m=I8 (Br txt)∧m≤(Br txt).length∧y=⟨[(0,(.ptr 0 0)),(2,(.int .i64 ((m:Int))))],[(0,(.row [(.str ((Br txt))),(.str wd)] 158))],1⟩∧g=0) [0,2] 1 (by omega) (fun hJ0=>?_) ?_
 ·refine Ab ?_
  refine Ar ?_
  refine Ez [] [0,2,3] ?_
  refine Ab ?_
  refine Ar ?_
  refine Aw 0 [] [0,2,3] [] (hk 5 Qf (X50 txt)<|hk0) v0 c0 ?_
  refine Ab ?_
  obtain⟨b3,hb3⟩:∃b,b=(A8 (Br txt) 40):=⟨_,rfl⟩
  refine Ae (CS:=[(7,((!b3)=true→(!b3)=true)),(8,((!b3)=true→(!b3)=true)),(9,((!b3)=true→(!b3)=true)),(10,(!b3)=true→(!b3)=true),(11,(b3=false→(!b3)=true))]) [18,19,20,21] [0,2,3,23] [] (hk 4 Jg (Kx (Br txt) 40 (by omega))<|hkg 10 (!b3) Jg (fun cg=>Kx (Br txt) 41 (by omega))<|hk0) (vk 6 17 (a:=.bool (A8 (Br txt) 40)) (b:=.bool b3) (Imp.of_eq (by rw[hb3]))<|v0) (by refine cc _ ?_<|cc _ ?_<|cc _ ?_<|cc _ ?_<|cc _ ?_ c0<;>simp) ?_
  refine Be (q:=b3||(A8 (Br txt) 41)) (by kernel_rfl) (fun c1=>?_) (fun c1=>?_)
  ·subst hb3
   try simp only[Ao] at c1
   refine Aa [] [0,2] ?_
   refine Jr ⟨rfl,_,(by kernel_rfl:gcS _ _ _=some ⟨[(0,(.ptr 0 0)),(2,(.int .i64 1))],[(0,(.row [(.str ((Br txt))),(.str wd)] 158))],1⟩),_,1,?_,?_,(by kernel_rfl),rfl⟩
   ·exact(X3 (by simpa using c1)).1.symm
   ·exact(X3 (by simpa using c1)).2
  ·subst hb3
   try simp only[Ao] at c1
   refine Ah ?_
   refine Ab ?_
   refine Ax ?_
   refine B4 (fun g y=>∃(j o:Nat),j≤(Br txt).length∧o≤j∧Cr (Br txt) 0=j+Cr ((Br txt).drop j) o∧y=⟨[(0,(.ptr 0 0)),(2,(.int .i64 ((j:Int)))),(3,(.int .i64 ((o:Int))))],[(0,(.row [(.str ((Br txt))),(.str wd)] 158))],1⟩∧g=(Br txt).length-j) [0,2,3] 1 _ (by omega) ⟨0,0,(by omega),(by omega),(by simp),(by kernel_rfl),rfl⟩ ?_
   rintro g1 y1 ⟨j,o,f1_1,f1_2,f1_3,rfl,rfl⟩
   refine Ab ?_
   obtain⟨b4,hb4⟩:∃b,b=(decide ((j:Int) < ((Br txt).length:Int))):=⟨_,rfl⟩
   refine Ae (CS:=[(9,(b4=true→b4=true)),(10,(b4=true→b4=true)),(11,(b4=true→b4=true)),(13,(b4=true→(b4=true∧b4=true)∧(0≤(j:Int)∧j < (Br txt).length))),(14,(b4=true→b4=true)),(15,(b4=true→b4=true))]) [32,33,34,35,36,37,38] [0,2,3,39] [] hk0 (vk 8 31 (a:=.bool (decide ((j:Int) < ((Br txt).length:Int)))) (b:=.bool b4) (Imp.of_eq (by rw[hb4]))<|v0) (by refine cc _ ?_<|cc _ ?_<|cc _ ?_<|cc _ ?_<|cc _ ?_<|cc _ ?_ c0<;>(intros;simp_all;done)) ?_
   refine Be (q:=b4&&(!decide (((Ag (Br txt) j).toNat:Int)=32))) (by kernel_rfl) (fun c2=>?_) (fun c2=>?_)
   ·subst hb4
    try simp only[Ao] at c2
    refine Ah ?_
    refine Ab ?_
    refine Ax ?_
    refine Ae [] [0,2,3,47] [] hk0 v0 (cc 5 (p:=(0≤(j:Int)∧j < (Br txt).length)) (by omega)<|c0) ?_
    refine Ax ?_
    refine Aa [] [0,2,3,47,48] ?_
    refine Ba (p:=((Ag (Br txt) j).toNat:Int)=40) (by kernel_rfl) (fun c3=>?_) (fun c3=>?_)
    ·refine Ar ?_
     refine Aw 0 [] [0,2,3] [] hk0 v0 (cc 1 (p:=(-9223372036854775808≤(o:Int)+1∧(o:Int)+1≤9223372036854775807)) (by omega)<|c0) ?_
     refine Ar ?_
     refine Aw 0 [] [0,2,3] [] hk0 v0 (cc 1 (p:=(-9223372036854775808≤(j:Int)+1∧(j:Int)+1≤9223372036854775807)) (by omega)<|c0) ?_
     refine⟨by kernel_rfl,_,?_,(j+1),(o+1),?_,?_,?_,(by kernel_rfl),rfl⟩
     ·omega
     ·omega
     ·omega
     ·rw[f1_3,Q5h ⟨by omega,c2.2⟩ c3];omega
    ·refine Aa [] [0,2,3,52] ?_
     refine Ba (p:=((Ag (Br txt) j).toNat:Int)=41) (by kernel_rfl) (fun c4=>?_) (fun c4=>?_)
     ·refine Ab ?_
      refine Aa [] [0,2,3,55] ?_
      refine Ba (p:=(o:Int)=0) (by kernel_rfl) (fun c5=>?_) (fun c5=>?_)
      ·refine Jr ⟨rfl,_,(by kernel_rfl:gcS _ _ _=some ⟨[(0,(.ptr 0 0)),(2,(.int .i64 ((j:Int))))],[(0,(.row [(.str ((Br txt))),(.str wd)] 158))],1⟩),_,j,?_,?_,(by kernel_rfl),rfl⟩
       ·rw[X2 (by simpa using c1),f1_3,Q5g ⟨by omega,c2.2⟩ ⟨c4,by omega⟩];omega
       ·omega
      ·refine Ah ?_
       refine Ar ?_
       refine Aw 0 [] [0,2,3] [] hk0 v0 (cc 1 (p:=(-9223372036854775808≤(o:Int)-1∧(o:Int)-1≤9223372036854775807)) (by omega)<|c0) ?_
       refine Ar ?_
       refine Aw 0 [] [0,2,3] [] hk0 v0 (cc 1 (p:=(-9223372036854775808≤(j:Int)+1∧(j:Int)+1≤9223372036854775807)) (by omega)<|c0) ?_
       refine⟨by kernel_rfl,_,?_,(j+1),(o-1),?_,?_,?_,(Eq.trans (b:=(⟨[(0,(.ptr 0 0)),(2,(.int .i64 ((j:Int)+1))),(3,(.int .i64 ((o:Int)-1)))],[(0,(.row [(.str ((Br txt))),(.str wd)] 158))],1⟩:St)) (by kernel_rfl) (by rw[show(o:Int)-1=((o-1:Nat):Int) from by omega];rfl)),rfl⟩
       ·omega
       ·omega
       ·omega
       ·rw[f1_3,Q5k ⟨by omega,c2.2⟩ c4 (by omega)];omega
     ·refine Ah ?_
      refine Ar ?_
      refine Aw 0 [] [0,2,3] [] hk0 v0 (cc 1 (p:=(-9223372036854775808≤(j:Int)+1∧(j:Int)+1≤9223372036854775807)) (by omega)<|c0) ?_
      refine⟨by kernel_rfl,_,?_,(j+1),o,?_,?_,?_,(by kernel_rfl),rfl⟩
      ·omega
      ·omega
      ·omega
      ·rw[f1_3,Q5j ⟨by omega,c2.2⟩ c3 c4];omega
   ·subst hb4
    try simp only[Ao] at c2
    refine Bq ?_
    refine Ab ?_
    refine Q0 ?_
    refine N7 (y:=⟨[(0,(.ptr 0 0)),(2,(.int .i64 ((j:Int))))],[(0,(.row [(.str ((Br txt))),(.str wd)] 158))],1⟩) [0,2] 1 (by omega) (by kernel_rfl) (hJ0 _ _ ⟨j,(by rw[X2 (by simpa using c1),f1_3,Q5i (by omega)];rfl),(by omega),(by kernel_rfl),rfl⟩)
 ·rintro g y ⟨m,fl0_1,fl0_2,rfl,rfl⟩
  refine Gr (CS:=[(7,(0≤(0:Int)∧(0:Int)≤(m:Int)∧(m:Int)≤((Br txt).length:Int))),(13,(0≤(m:Int)∧(m:Int)≤((Br txt).length:Int)∧((Br txt).length:Int)≤((Br txt).length:Int)))]) [] [] [] hk0 v0 (by refine cc _ ?_<|cc _ ?_ c0<;>omega) ?_
  refine D0 (.inr rfl) (al:=[]) (by kernel_rfl) ?_ ((by kernel_rfl:Cj 1 _=some [(0,(.row [(.str (((Br txt).take ((Br txt).length)).drop m)),(.str (((Br txt).take m).drop 0))] 158))]).trans ?_)
  ·rfl
  ·rw[X6,←fl0_1,List.take_length,List.drop_zero]
theorem On (txt wd : List UInt8) (hl : txt.length ≤ 8388608) :
  Fc Tryz.prog 154 [(.ptr 0 0)] [(0,(.row [(.str txt),(.str wd)] 158))] 1 (.str wd) [(0,(.row [(.str ((Ad txt).2)),(.str ((Ad txt).1))] 158))]:=by
 refine Kz [.tmp 2] Tryz.func154 rfl Tryz.ntmps154 rfl rfl (by kernel_rfl) (by kernel_rfl) (by kernel_rfl) (fun B F hF=>?_)
 refine Aa [] [0] ?_
 refine Aa [] [0,3] ?_
 refine Ab ?_
 refine Ar ?_
 refine Bm 1 0 [] [3,8] [] hk0 v0 c0 ?_
 refine Dy [0] (al:=[(.ptr 0 0)]) (al':=[(.ptr 0 0)]) (r:=(.tup [])) (r':=(.tup [])) (s':=[(3,(.str wd)),(8,(.ptr 0 0)),(9,(.tup []))]) (H:=[(0,(.row [(.str txt),(.str wd)] 158))]) (H':=[(0,(.row [(.str ((Ad txt).2)),(.str ((Ad txt).1))] 158))]) (h2:=[(0,(.row [(.str ((Ad txt).2)),(.str ((Ad txt).1))] 158))]) (by kernel_rfl) (by exact L5) (by kernel_rfl) (by kernel_rfl) (by kernel_rfl) (by kernel_rfl) (by kernel_rfl) (Mx txt wd hl) (by kernel_rfl) (by kernel_rfl) (by kernel_rfl) ?_
 refine Bo ?_
 refine Aa [] [2] ?_
 refine Ac ?_
 refine D0 (.inl rfl) (al:=[(.str wd)]) (by kernel_rfl) ?_ ((by kernel_rfl:Cj 1 _=some [(0,(.row [(.str ((Ad txt).2)),(.str ((Ad txt).1))] 158))]).trans ?_)
 ·rfl
 ·rfl
theorem Q7y  :
  FnV Tryz.prog 120 [(.bool true)] (.tup []):=by
 refine A1 [] Tryz.func120 rfl Tryz.ntmps120 rfl rfl (fun B F hF=>?_)
 refine Aa [] [3] ?_
 refine Dp (by kernel_rfl) ?_
 refine Ah ?_
 refine RK wN [] ?_
 exact Same.of_eq (by first|rfl|(simp only[Ai];simp_all))
end Sv
end
end Go.Proofs.YtlamaeednbhjdaaGreatDoor
