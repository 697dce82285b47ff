/- The texts OrdM, OrdT, OrdF, Order1, Order2, OrdL, Order3, OrdC, ItoaV, Order7, Order8, OpenD, OpenV, OpenR of the proof, joined. Each says at its theorems what it proves. -/
import Derived.Test.YtlmloohlmlahfaaGreatDoorV3
import Derived.Test.YtlmloohlmlahfaaGreatDoorRows
import Derived.ChangeArms
import Derived.WideShapes
set_option linter.unusedSimpArgs false
set_option linter.unusedVariables false
namespace Go.Proofs.YtlmloohlmlahfaaGreatDoor
section
open Go Go.RowKit
namespace Sv
abbrev Ck:=Int × Bool × DepT
abbrev Ez:=Int→Int→List UInt8→Int→List UInt8→Bool × Int
def A0 (m:Ez) (st:PoolT) (th:List Int) (id:Int) (l:List DepT):List DepT:=l.filter fun d => !(Cf m st d (Aw th [id])).1
def Bl (st:PoolT) (id:Int):List DepT:=(nth st.all id.toNat).1.pre
def Bu (st:PoolT) (id:Int):List DepT:=(nth st.all id.toNat).1.requires
def Dj (m:Ez) (st:PoolT) (th:List Int):List Int→Int→Bool→Int
  |[],b,_=>b
  |id::r,b,h=>if 0 < (A0 m st th id (Bl st id)).length then Dj m st th r b h else if (A0 m st th id (Bu st id)).length=0 then id else Dj m st th r (if h=true then b else id) true
def Dr (m:Ez) (st:PoolT) (th:List Int) (c:List Int):Int:=Dj m st th c (nth c 0) false
def Dm (m:Ez) (st:PoolT) (th:List Int) (b p:Int):List Ck:=(A0 m st th b (Bl st b)).map (fun d=>(p,true,d))++(A0 m st th b (Bu st b)).map (fun d=>(p,false,d))
def Dd (m:Ez) (st:PoolT) (q:List Bc) (a:List Int):Nat→List Int→List Bc→List Ck→List Bc × List Ck
  |0,_,o,k=>(o,k)
  |n+1,c,o,k=>if c=[] then (o,k) else Dd m st q a n (Ae c [Dr m st (Aj a o) c]) (o++Dk q (Dr m st (Aj a o) c)) (k++Dm m st (Aj a o) (Dr m st (Aj a o) c) (o.length:Int))
def C7 (m:Ez) (st:PoolT) (a b:List Int):List Bc × List Ck × Int :=
  if (Al m st a b).2≠0 then ([],[],(Al m st a b).2) else
    ((Dd m st (Al m st a b).1 a (Ae b a).length (Ae b a) [] []).1++(Al m st a b).1.filter Cr,(Dd m st (Al m st a b).1 a (Ae b a).length (Ae b a) [] []).2,0)
theorem S9v {m:Ez} {st:PoolT} {th:List Int}:∀(l:List Int) (b:Int) (h:Bool),Dj m st th l b h∈l∨Dj m st th l b h=b
  |[],b,h => .inr rfl
  |id::r,b,h=>by
    unfold Dj
    split
    · exact(S9v r b h).imp (List.mem_cons_of_mem _) (fun q=>q)
    · split
      · exact .inl (by simp)
      · rcases S9v r (if h=true then b else id) true with q|q
        · exact .inl (List.mem_cons_of_mem _ q)
        · rw[q]
          split
          · exact .inr rfl
          · exact .inl (by simp)
theorem L1v {m:Ez} {st:PoolT} {th c:List Int} (h:¬c=[]):Dr m st th c∈c:=by
  unfold Dr
  rcases S9v (m:=m) (st:=st) (th:=th) c (nth c 0) false with q|q
  · exact q
  · rw[q]
    cases c with
    |nil=>exact absurd rfl h
    |cons x r=>simp[nth]
theorem Km {c:List Int} {b:Int} (h:b∈c):(Ae c [b]).length < c.length:=by
  have h1:∀c:List Int,b∈c→(c.filter fun z => !decide (z∈[b])).length < c.length:=by
    intro c
    induction c with
    |nil=>intro h;cases h
    |cons x r ih =>
      intro h
      have h2:=List.length_filter_le (fun z => !decide (z∈[b])) r
      by_cases e:x=b
      · rw[List.filter_cons_of_neg (by simp[e])];simp only[List.length_cons];omega
      · have:=ih (by simpa [Ne.symm e] using h)
        rw[List.filter_cons_of_pos (by simp[e])];simp only[List.length_cons];omega
  exact Nat.lt_of_le_of_lt (Im _) (h1 c h)
theorem Kkv {m : Ez} {st : PoolT} {q : List Bc} {a : List Int} {n : Nat} {c : List Int} {o : List Bc} {k : List Ck} (hc : ¬ c = []) (hn : c.length ≤ n) :
    Dd m st q a n c o k=Dd m st q a (n-1) (Ae c [Dr m st (Aj a o) c]) (o++Dk q (Dr m st (Aj a o) c)) (k++Dm m st (Aj a o) (Dr m st (Aj a o) c) (o.length:Int)):=by
  have:=List.length_pos_iff.2 hc
  obtain⟨j,rfl⟩:∃j,n=j+1:=⟨n-1,by omega⟩
  rw[Dd,if_neg hc,Nat.add_sub_cancel]
theorem Psv {m:Ez} {st:PoolT} {q:List Bc} {a:List Int} {n:Nat} {o:List Bc} {k:List Ck}:Dd m st q a n [] o k=(o,k):=by cases n<;>rfl
theorem Syv {m:Ez} {st:PoolT} {q:List Bc} {a:List Int}:∀(n:Nat) (c:List Int) (o:List Bc) (k:List Ck),c.length≤n→Cq c→∃bs:List Int,bs.Perm c∧(Dd m st q a n c o k).1=o++bs.flatMap (Dk q)
  |0,c,o,k,h,_=>by
    obtain rfl:c=[]:=List.length_eq_zero_iff.1 (by omega)
    exact⟨[],List.Perm.refl _,by simp[Dd]⟩
  |n+1,c,o,k,h,hr=>by
    by_cases hc:c=[]
    · subst hc;exact⟨[],List.Perm.refl _,by simp[Dd]⟩
    · have hm:=L1v (m:=m) (st:=st) (th:=Aj a o) hc
      have hl:=Km hm
      rw[Kkv hc h,Nat.add_sub_cancel]
      generalize Dr m st (Aj a o) c=b at hm hl ⊢
      obtain⟨bs,h1,h2⟩:=Syv (m:=m) (st:=st) (q:=q) (a:=a) n (Ae c [b]) (o++Dk q b) (k++Dm m st (Aj a o) b (o.length:Int)) (by omega) (Fm _ _)
      refine⟨b::bs,(List.Perm.cons b h1).trans ((List.perm_ext_iff_of_nodup ?_ (Ng hr)).2 fun x=>?_),by rw[h2,List.flatMap_cons,List.append_assoc]⟩
      · rw[List.nodup_cons];exact⟨fun q=>by have:=(minusZ_mem.1 q).2;simp at this,Ng (Fm _ _)⟩
      · rw[List.mem_cons,minusZ_mem]
        constructor
        · rintro (rfl|q)
          · exact hm
          · exact q.1
        · intro q
          by_cases e:x=b
          · exact .inl e
          · exact .inr ⟨q,by simpa using e⟩
theorem Sz {m:Ez} {st:PoolT} {a b:List Int} (ha:∀x∈a,0≤x∧x < st.all.length) (hb:∀x∈b,0≤x∧x < st.all.length):(C7 m st a b).1.Perm (Cm (Bs m st) a b)∧(C7 m st a b).2.2=0:=by
  have e:=Jg (m:=m) ha hb
  unfold C7
  rw[e,if_neg (by simp)]
  refine⟨?_,rfl⟩
  obtain⟨bs,h1,h2⟩:=Syv (m:=m) (st:=st) (q:=Cm (Bs m st) a b) (a:=a) (Ae b a).length (Ae b a) [] [] (Nat.le_refl _) (Fm _ _)
  show((Dd m st _ a _ _ [] []).1++_).Perm _
  rw[h2,List.nil_append]
  exact Q8x (Q6a m st a b) h1 (Ng (Fm _ _))
theorem Xav:∀(l:List Int) (u n:Int),Cq l→u≤n→(∀x∈l,u≤x∧x < n)→(l.length:Int)≤n-u
  |[],u,n,_,h,_=>by simp;omega
  |x::r,u,n,h,_,k=>by
    have hx:=k x (by simp)
    have:=Xav r (x+1) n h.2 (by omega) fun y hy=>⟨by have:=h.1 y hy;omega,(k y (by simp[hy])).2⟩
    simp only[List.length_cons];omega
theorem Sfv {l:List Int} {n:Nat} (h:Cq l) (k:∀x∈l,0≤x∧x < n):l.length≤n:=by
  have:=Xav l 0 n h (by omega) k
  omega
theorem X4xv (q:List Bc) (b:Int):(Dk q b).length≤2*q.length:=by
  unfold Dk
  have h1:=List.length_filter_le (ofB b) q
  have h2:=List.length_filter_le (Cu b) q
  rw[List.length_append];omega
theorem P5 (m:Ez) (st:PoolT) (th:List Int) (id:Int) (l:List DepT):(A0 m st th id l).length≤l.length:=List.length_filter_le _ _
theorem Q1h {α:Type} (p:α→Bool):∀l:List α,0≤B3 p l→(l.take ((B3 p l).toNat+1)).filter (fun x => !p x)=l.take (B3 p l).toNat
  |[],h=>by simp[B3] at h
  |x::r,h=>by
    unfold B3 at h ⊢
    by_cases hx:p x=true
    · rw[if_pos hx];simp[hx]
    · rw[if_neg hx] at h ⊢
      by_cases hr:B3 p r < 0
      · rw[if_pos hr] at h;omega
      · rw[if_neg hr,show(B3 p r+1).toNat=(B3 p r).toNat+1 by omega,List.take_succ_cons,List.filter_cons_of_pos (by simpa using hx),Q1h p r (by omega),List.take_succ_cons]
theorem Q1gv {α:Type} (p:α→Bool):∀l:List α,B3 p l = -1→l.filter (fun x => !p x)=l
  |[],_=>rfl
  |x::r,h=>by
    have hl:=L8 p r
    unfold B3 at h
    by_cases hx:p x=true
    · rw[if_pos hx] at h;omega
    · rw[if_neg hx] at h
      rw[List.filter_cons_of_pos (by simpa using hx),Q1gv p r (by split at h<;>omega)]
theorem Qtv {α:Type} [Inhabited α] {T l:List α} {j:Nat} (h:T.drop j=l.drop j):nth T j=nth l j:=by
  have:=congrArg (fun x=>x[0]?) h
  simp only[List.getElem?_drop,Nat.add_zero] at this
  unfold nth;rw[this]
theorem Q2rv {α:Type} {T l:List α} {j:Nat} (h:T.drop j=l.drop j):T.drop (j+1)=l.drop (j+1):=by
  have:=congrArg (List.drop 1) h
  simpa [List.drop_drop] using this
theorem X1b {α:Type} [Inhabited α] {p:α→Bool} {T l:List α} {i j:Nat} (hj:j < l.length) (hd:T.drop j=l.drop j) (ht:T.take i=(l.take j).filter p) (hp:p (nth T j)=false):T.take i=(l.take (j+1)).filter p:=by
  rw[Qtv hd] at hp
  rw[ht,List.take_add_one,List.getElem?_eq_getElem hj,List.filter_append]
  have:nth l j=l[j]:=by simp[nth,hj]
  rw[this] at hp
  simp[hp]
theorem X1av {α : Type} [Inhabited α] {p : α → Bool} {T l : List α} {i j : Nat} (hij : i < j) (hj : j < l.length) (hT : T.length = l.length) (hd : T.drop j = l.drop j) (ht : T.take i = (l.take j).filter p) (hp : p (nth T j) = true) :
    (T.set i (nth T j)).drop (j+1)=l.drop (j+1)∧(T.set i (nth T j)).take (i+1)=(l.take (j+1)).filter p:=by
  constructor
  · rw[List.drop_set_of_lt (by omega),Q2rv hd]
  · rw[List.take_add_one,List.getElem?_set_self (by omega),List.take_set_of_le (Nat.le_refl _),ht,Qtv hd]
    rw[Qtv hd] at hp
    have:nth l j=l[j]:=by simp[nth,hj]
    rw[this] at hp ⊢
    rw[List.take_add_one,List.getElem?_eq_getElem hj,List.filter_append]
    simp[hp]
theorem Vhv {a:List Int} {o:List Bc} {q:Bc}:Aj (Aj a o) [q]=Aj a (o++[q]):=by
  rw[Vj]
  show Gv (Ce (Aj a o)) q=_
  rw[Nc (Q34 a o)]
end Sv
end
section
open Go Go.RowKit
namespace Sv
section
variable {m : Ez} {st : PoolT} {th : List Int} {id : Int}
end
theorem T4 {v:Int}:∀{u:List Int},Cq u→v∈u→(u.filter fun i=>decide (i=v))=[v]
  |[],_,h=>by cases h
  |x::r,hr,h=>by
    by_cases e:x=v
    · subst e
      rw[List.filter_cons_of_pos (by simp),List.filter_eq_nil_iff.2]
      intro y hy
      have:=hr.1 y hy
      simp;omega
    · rw[List.filter_cons_of_neg (by simp[e])]
      exact T4 hr.2 ((List.mem_cons.1 h).resolve_left fun q=>e q.symm)
section
variable {m : Ez} {st : PoolT} {a b : List Int}
theorem Q9gv {v:Int} (h:v∈Ae b a):(Cm (Bs m st) a b).filter (ofB v)=[Bs m st (Ae b a) (Ae a b) v]:=by
  unfold Cm
  rw[List.filter_map]
  have e:(ofB v∘Bs m st (Ae b a) (Ae a b))=fun i=>decide (i=v):=by
    funext i
    show decide ((Bs m st (Ae b a) (Ae a b) i).2.1=v)=_
    rw[(M8 m st _ _ i).1]
  rw[e,T4 (M2 _ _) (unionZ_mem.2 (.inl h))];rfl
theorem Q7zv {x:Int} {s:List Int} (h:Cq s):Cb x s=Aw s [x]:=by
  have:Cb x (Ce s)=Ce (s++[x]):=Q71
  rw[Nc h] at this;exact this
theorem Q3i {N:Nat} (hz:∀id:Int,0≤id→id < st.all.length→(Bl st id).length≤N∧(Bu st id).length≤N) {q:List Bc}:∀(n:Nat) (c:List Int) (o:List Bc) (k:List Ck),c.length≤n→(∀x∈c,0≤x∧x < st.all.length)→(Dd m st q a n c o k).2.length≤k.length+(2*N)*n
  |0,_,_,k,_,_=>by simp[Dd]
  |n+1,c,o,k,hn,hc=>by
    unfold Dd
    split
    · show k.length≤_;omega
    · rename_i hne
      have hm:=L1v (m:=m) (st:=st) (th:=Aj a o) hne
      have hv:=hc _ hm
      have hl:=Km hm
      have hzz:=hz _ hv.1 hv.2
      generalize Dr m st (Aj a o) c=v at hm hv hl hzz ⊢
      have ih:=Q3i hz (q:=q) n (Ae c [v]) (o++Dk q v) (k++Dm m st (Aj a o) v (o.length:Int)) (by omega) (fun x hx=>hc x (minusZ_mem.1 hx).1)
      have h1:=P5 m st (Aj a o) v (Bl st v)
      have h2:=P5 m st (Aj a o) v (Bu st v)
      have hb:(Dm m st (Aj a o) v (o.length:Int)).length≤2*N:=by unfold Dm;rw[List.length_append,List.length_map,List.length_map];omega
      rw[List.length_append] at ih
      have e:(2*N)*(n+1)=(2*N)*n+2*N:=Nat.mul_succ _ _
      omega
theorem Q3fv {N:Nat} (hz:∀id:Int,0≤id→id < st.all.length→(∀d∈Bl st id,d.size≤N)∧∀d∈Bu st id,d.size≤N) {q:List Bc}:∀(n:Nat) (c:List Int) (o:List Bc) (k:List Ck),(∀x∈c,0≤x∧x < st.all.length)→(∀x∈k,x.2.2.size≤N)→∀x∈(Dd m st q a n c o k).2,x.2.2.size≤N
  |0,_,_,_,_,hk=>hk
  |n+1,c,o,k,hc,hk=>by
    unfold Dd
    split
    · exact hk
    · rename_i hn
      have hm:=hc _ (L1v (m:=m) (st:=st) (th:=Aj a o) hn)
      refine Q3fv hz n _ _ _ (fun x hx=>hc x (minusZ_mem.1 hx).1) fun x hx=>?_
      rcases List.mem_append.1 hx with hx|hx
      · exact hk x hx
      · unfold Dm at hx
        rcases List.mem_append.1 hx with hx|hx
        · obtain⟨d,hd,rfl⟩:=List.mem_map.1 hx
          exact(hz _ hm.1 hm.2).1 d (List.mem_filter.1 hd).1
        · obtain⟨d,hd,rfl⟩:=List.mem_map.1 hx
          exact(hz _ hm.1 hm.2).2 d (List.mem_filter.1 hd).1
end
end Sv
end
section
open Go Go.RowKit
namespace Sv
def D5 (k:List Ck) (i:Int):Bool:=k.any fun x=>decide (x.1=i)
def C6 (k:List Ck) (i:Int):Bool:=k.any fun x=>decide (x.1=i)&&x.2.1
def E2 (st:PoolT) (s:List Int) (l:List DepT):Bool:=l.all fun d=>(Cf Ab st d s).1
def Iy (st:PoolT) (a:List Bc) (i:Nat) (th:List Int):Bool:=(a.drop i).any fun s=>Cs s.1&&E2 st (Cb s.2.1 th) (Bl st s.2.1)
def Ji (st:PoolT) (a:List Bc) (k:List Ck) (i:Nat) (th:List Int) (last:Int):Bool :=
  if Cs (nth a i).1=true then
    !(C6 k i == E2 st (Cb (nth a i).2.1 th) (Bl st (nth a i).2.1))&&(!(D5 k i == (E2 st (Cb (nth a i).2.1 th) (Bl st (nth a i).2.1)&&E2 st (Cb (nth a i).2.1 th) (Bu st (nth a i).2.1)))&&!(C6 k i&&Iy st a i th))
  else !(D5 k i||(decide (0≤(nth a i).2.2)&&!decide ((nth a i).2.2=last)))
def Fo (l:List Bc):Int:=l.foldl (fun z s=>if Cs s.1=true then s.2.1 else z) (-1)
theorem Z9 {l:List Bc} {s:Bc}:Fo (l++[s])=if Cs s.1=true then s.2.1 else Fo l:=by unfold Fo;rw[List.foldl_append];rfl
theorem Z8v:∀(f:List Bc) (z:Int),(∀s∈f,Cs s.1=false)→f.foldl (fun z s=>if Cs s.1=true then s.2.1 else z) z=z
  |[],_,_=>rfl
  |s::r,z,h=>by
    rw[List.foldl_cons,if_neg (by rw[h s (by simp)];simp)]
    exact Z8v r z fun x hx=>h x (by simp[hx])
section
variable {st : PoolT} {th : List Int}
theorem Q4dv {α:Type} (p:α→Bool):∀l:List α,l.all p=decide ((l.filter fun x => !p x).length=0)
  |[]=>rfl
  |d::r=>by
    rw[List.all_cons,Q4dv p r]
    cases h:p d with
    |true=>rw[List.filter_cons_of_neg (by simp[h]),Bool.true_and]
    |false=>rw[List.filter_cons_of_pos (by simp[h]),List.length_cons,Bool.false_and];simp
theorem Tg {id:Int} {l:List DepT} (h:Cq th):E2 st (Cb id th) l=decide ((A0 Ab st th id l).length=0):=by
  unfold E2 A0
  rw[Q7zv h];exact Q4dv _ l
theorem Ta:∀(l:List Int) (b:Int) (h:Bool),(h=true→¬0 < (A0 Ab st th b (Bl st b)).length)→((∃id∈l,¬0 < (A0 Ab st th id (Bl st id)).length)∨h=true)→¬0 < (A0 Ab st th (Dj Ab st th l b h) (Bl st (Dj Ab st th l b h))).length
  |[],b,h,hb,he=>by
    rcases he with⟨_,q,_⟩|q
    · cases q
    · exact hb q
  |x::r,b,h,hb,he=>by
    rw[Dj]
    by_cases hp:0 < (A0 Ab st th x (Bl st x)).length
    · rw[if_pos hp]
      refine Ta r b h hb (he.imp ?_ fun q=>q)
      rintro⟨y,hy,k⟩
      rcases List.mem_cons.1 hy with rfl|hy
      · exact absurd hp k
      · exact⟨y,hy,k⟩
    · rw[if_neg hp]
      by_cases hr:(A0 Ab st th x (Bu st x)).length=0
      · rw[if_pos hr];exact hp
      · rw[if_neg hr]
        exact Ta r _ true (fun _=>by cases h with
          |false=>exact hp
          |true=>exact hb rfl) (.inr rfl)
theorem Q9rv {c:List Int} (h:0 < (A0 Ab st th (Dr Ab st th c) (Bl st (Dr Ab st th c))).length):∀id∈c,0 < (A0 Ab st th id (Bl st id)).length:=fun id hid=>by
  by_cases q:0 < (A0 Ab st th id (Bl st id)).length
  · exact q
  · exact absurd h (Ta c (nth c 0) false (fun e=>by cases e) (.inl ⟨id,hid,q⟩))
end
section
variable {st : PoolT} {fr tw : List Int}
theorem Q3g {q:List Bc}:∀(n:Nat) (c:List Int) (o:List Bc) (k:List Ck),∃k1,(Dd Ab st q fr n c o k).2=k++k1∧∀x∈k1,(o.length:Int)≤x.1
  |0,c,o,k=>⟨[],by simp[Dd],by simp⟩
  |n+1,c,o,k=>by
    unfold Dd
    split
    · exact⟨[],by simp,by simp⟩
    · generalize Dr Ab st (Aj fr o) c=v
      obtain⟨k1,h1,h2⟩:=Q3g (q:=q) n (Ae c [v]) (o++Dk q v) (k++Dm Ab st (Aj fr o) v (o.length:Int))
      refine⟨Dm Ab st (Aj fr o) v (o.length:Int)++k1,by rw[h1,List.append_assoc],fun x hx=>?_⟩
      rcases List.mem_append.1 hx with hx|hx
      · have : x.1 = (o.length : Int) := by
          unfold Dm at hx
          rcases List.mem_append.1 hx with hx|hx<;>obtain⟨d,_,rfl⟩:=List.mem_map.1 hx<;>rfl
        omega
      · have:=h2 x hx
        rw[List.length_append] at this
        omega
theorem Q8v {q:List Bc} {n:Nat} {c:List Int} {o:List Bc} {k:List Ck} (hn:c.length≤n) (hr:Cq c):∃r,(Dd Ab st q fr n c o k).1=o++r∧∀s∈r,Cs s.1=true→s.2.1∈c:=by
  obtain⟨bs,h1,h2⟩:=Syv (m:=Ab) (st:=st) (q:=q) (a:=fr) n c o k hn hr
  refine⟨_,h2,fun s hs hc=>?_⟩
  obtain⟨b,hb,hs⟩:=List.mem_flatMap.1 hs
  rcases (mem_done.1 hs).2 with e|e
  · unfold ofB at e
    rw[show s.2.1=b by simpa using e]
    exact h1.mem_iff.1 hb
  · have:=K3 hc
    unfold Cu at e
    simp only[Bool.and_eq_true,Bool.or_eq_true,decide_eq_true_eq] at e
    omega
theorem Q1nv {s:Bc} (h:s∈(Cm (Bs Ab st) fr tw).filter Cr):Cs s.1=false∧s.2.2 < 0:=by
  obtain⟨h1,h2⟩:=List.mem_filter.1 h
  obtain⟨i,_,rfl⟩:=List.mem_map.1 h1
  have h2:(Bs Ab st (Ae tw fr) (Ae fr tw) i).1=2:=by unfold Cr at h2;simpa using h2
  refine⟨by rw[h2];rfl,?_⟩
  have hk:=M8 Ab st (Ae tw fr) (Ae fr tw) i
  by_cases c:i∈Ae tw fr
  · have:=K3 (hk.2.1 c).1;omega
  · have e:Bs Ab st (Ae tw fr) (Ae fr tw) i=goS Ab st (Ae tw fr) i:=by unfold Bs;rw[if_neg c]
    rw[e] at h2 ⊢
    unfold goS at h2 ⊢
    split
    · rename_i q;rw[if_pos q] at h2;simp at h2
    · rename_i q
      split
      · rename_i q2;rw[if_neg q,if_pos q2] at h2;simp at h2
      · show B9 (G2 Ab st i) (Ae tw fr) < 0;omega
theorem O4 {k:List Ck} {i:Int} (h:∀x∈k,¬x.1=i):D5 k i=false∧C6 k i=false:=by
  unfold D5 C6
  rw[List.any_eq_false,List.any_eq_false]
  exact⟨fun x hx=>by simp[h x hx],fun x hx=>by simp[h x hx]⟩
theorem som_app {a b:List Ck} {i:Int}:D5 (a++b) i=(D5 a i||D5 b i)∧C6 (a++b) i=(C6 a i||C6 b i):=by unfold D5 C6;rw[List.any_append,List.any_append];exact⟨rfl,rfl⟩
theorem som_map {l:List DepT} {i:Int} {p:Bool}:D5 (l.map fun d=>(i,p,d)) i = !decide (l.length=0)∧C6 (l.map fun d=>(i,p,d)) i=(p&&!decide (l.length=0)):=by
  unfold D5 C6
  cases l with
  |nil=>simp
  |cons d r=>cases p<;>simp
theorem X2g:∀(n:Nat) (c:List Int) (o:List Bc) (k:List Ck),c.length≤n→(∀x∈c,x∈Ae tw fr)→Cq c→(∀x∈k,x.1 < (o.length:Int))→∀i,o.length≤i→∀a z,a=(Dd Ab st (Cm (Bs Ab st) fr tw) fr n c o k).1++(Cm (Bs Ab st) fr tw).filter Cr→z=(Dd Ab st (Cm (Bs Ab st) fr tw) fr n c o k).2→i < a.length→Ji st a z i (Aj fr (a.take i)) (Fo (a.take i))=true:=by
  have base:∀(o:List Bc) (k:List Ck),(∀x∈k,x.1 < (o.length:Int))→∀i,o.length≤i→∀a z,a=o++(Cm (Bs Ab st) fr tw).filter Cr→z=k→i < a.length→Ji st a z i (Aj fr (a.take i)) (Fo (a.take i))=true:=by
    intro o k hk i hi a z ha hz hl
    subst hz
    have hin:nth a i∈(Cm (Bs Ab st) fr tw).filter Cr:=by
      subst ha
      rw[L0 hi]
      have:i-o.length < ((Cm (Bs Ab st) fr tw).filter Cr).length:=by rw[List.length_append] at hl;omega
      rw[El this];exact List.getElem_mem _
    have he:=Q1nv hin
    unfold Ji
    rw[if_neg (by rw[he.1];simp),(O4 fun x hx=>by have:=hk x hx;omega).1,decide_eq_false (by omega)];rfl
  intro n
  induction n with
  |zero =>
    intro c o k hn hc hr hk i hi a z ha hz hl
    exact base o k hk i hi a z (by rw[ha];rfl) (by rw[hz];rfl) hl
  |succ n ih =>
    intro c o k hn hc hr hk i hi a z ha hz hl
    by_cases hcne:c=[]
    · subst hcne
      rw[Psv] at ha hz
      exact base o k hk i hi a z ha hz hl
    · have hg:=Kkv (m:=Ab) (st:=st) (q:=Cm (Bs Ab st) fr tw) (a:=fr) (o:=o) (k:=k) hcne hn
      rw[Nat.add_sub_cancel] at hg
      rw[hg] at ha hz
      have hvc:=L1v (m:=Ab) (st:=st) (th:=Aj fr o) hcne
      have hnone:=Q9rv (st:=st) (th:=Aj fr o) (c:=c)
      generalize Dr Ab st (Aj fr o) c=v at ha hz hvc hnone hg
      have hvm:=hc v hvc
      have hlt:=Km hvc
      have hone:=Q9gv (m:=Ab) (st:=st) hvm
      have hsk:=M8 Ab st (Ae tw fr) (Ae fr tw) v
      have hd:Dk (Cm (Bs Ab st) fr tw) v=Bs Ab st (Ae tw fr) (Ae fr tw) v::(Cm (Bs Ab st) fr tw).filter (Cu v):=by unfold Dk;rw[hone];rfl
      generalize Bs Ab st (Ae tw fr) (Ae fr tw) v=sv at hsk hd
      have hbk:∀x∈Dm Ab st (Aj fr o) v (o.length:Int),x.1=(o.length:Int):=fun x hx=>by
        unfold Dm at hx
        rcases List.mem_append.1 hx with hx|hx<;>obtain⟨d,_,rfl⟩:=List.mem_map.1 hx<;>rfl
      have hk':∀x∈k++Dm Ab st (Aj fr o) v (o.length:Int),x.1 < ((o++Dk (Cm (Bs Ab st) fr tw) v).length:Int):=fun x hx=>by
        have h1:(o++Dk (Cm (Bs Ab st) fr tw) v).length=o.length+1+((Cm (Bs Ab st) fr tw).filter (Cu v)).length:=by rw[hd,List.length_append,List.length_cons];omega
        rcases List.mem_append.1 hx with hx|hx
        · have:=hk x hx;omega
        · have:=hbk x hx;omega
      by_cases hi2:(o++Dk (Cm (Bs Ab st) fr tw) v).length≤i
      · exact ih _ _ _ (by omega) (fun x hx=>hc x (minusZ_mem.1 hx).1) (Fm _ _) hk' i hi2 a z ha hz hl
      · obtain⟨r,hr1,hr2⟩:=Q8v (st:=st) (fr:=fr) (q:=Cm (Bs Ab st) fr tw) (n:=n) (c:=Ae c [v]) (o:=o++Dk (Cm (Bs Ab st) fr tw) v) (k:=k++Dm Ab st (Aj fr o) v (o.length:Int)) (by omega) (Fm _ _)
        obtain⟨k1,hb1,hb2⟩:=Q3g (st:=st) (fr:=fr) (q:=Cm (Bs Ab st) fr tw) n (Ae c [v]) (o++Dk (Cm (Bs Ab st) fr tw) v) (k++Dm Ab st (Aj fr o) v (o.length:Int))
        rw[hr1] at ha
        rw[hb1] at hz
        have hquiet:∀s∈(Cm (Bs Ab st) fr tw).filter (Cu v),Cs s.1=false∧s.2.2=v:=fun s hs=>by
          have e:=(List.mem_filter.1 hs).2
          unfold Cu at e
          simp only[Bool.and_eq_true,Bool.or_eq_true,decide_eq_true_eq] at e
          refine⟨?_,e.2⟩
          unfold Cs;simp only[Bool.or_eq_false_iff,decide_eq_false_iff_not];omega
        have hend:=fun s hs=>(Q1nv (st:=st) (fr:=fr) (tw:=tw) (s:=s) hs).1
        generalize (Cm (Bs Ab st) fr tw).filter Cr=en at ha hend
        generalize (Cm (Bs Ab st) fr tw).filter (Cu v)=f at hd hquiet
        rw[hd] at ha hi2 hb2
        have ha:a=o++sv::(f++(r++en)):=by rw[ha];simp
        rw[List.length_append,List.length_cons] at hi2
        have hb2:∀x∈k1,((o.length+1+f.length:Nat):Int)≤x.1:=fun x hx=>by have:=hb2 x hx;rw[List.length_append,List.length_cons] at this;omega
        by_cases hi0:i=o.length
        · subst hi0
          have hnth:nth a o.length=sv:=by rw[ha,L0 (Nat.le_refl _),Nat.sub_self];rfl
          have htk:a.take o.length=o:=by rw[ha];exact List.take_left
          have hthr:=Q34 fr o
          have hs0:=O4 (k:=k) (i:=(o.length:Int)) fun x hx=>by have:=hk x hx;omega
          have hs1:=O4 (k:=k1) (i:=(o.length:Int)) fun x hx=>by have:=hb2 x hx;omega
          have hsom:D5 z (o.length:Int)=(!decide ((A0 Ab st (Aj fr o) v (Bl st v)).length=0)||!decide ((A0 Ab st (Aj fr o) v (Bu st v)).length=0)):=by
            rw[hz,som_app.1,som_app.1,hs0.1,hs1.1];unfold Dm;rw[som_app.1,som_map.1,som_map.1];simp
          have hpre:C6 z (o.length:Int) = !decide ((A0 Ab st (Aj fr o) v (Bl st v)).length=0):=by
            rw[hz,som_app.2,som_app.2,hs0.2,hs1.2];unfold Dm;rw[som_app.2,som_map.2,som_map.2];simp
          have hhalf:¬(A0 Ab st (Aj fr o) v (Bl st v)).length=0→Iy st a o.length (Aj fr o)=false:=fun q=>by
            have hall:=hnone (by omega)
            unfold Iy
            rw[show a.drop o.length=sv::(f++(r++en)) by rw[ha];exact List.drop_left,List.any_eq_false]
            intro s hs
            have key:Cs s.1=true→s.2.1∈c:=fun hc1=>by
              rcases List.mem_cons.1 hs with rfl|hs
              · rw[hsk.1];exact hvc
              · rcases List.mem_append.1 hs with hs|hs
                · rw[(hquiet s hs).1] at hc1;cases hc1
                · rcases List.mem_append.1 hs with hs|hs
                  · exact(minusZ_mem.1 (hr2 s hs hc1)).1
                  · rw[hend s hs] at hc1;cases hc1
            cases hcs:Cs s.1 with
            |false=>simp
            |true =>
              have h5:=hall _ (key hcs)
              rw[Tg hthr,decide_eq_false (by omega)];simp
          unfold Ji
          rw[hnth,htk,if_pos (hsk.2.1 hvm).1,hsk.1,Tg hthr,Tg hthr,hsom,hpre]
          by_cases q1:(A0 Ab st (Aj fr o) v (Bl st v)).length=0
          · by_cases q2:(A0 Ab st (Aj fr o) v (Bu st v)).length=0<;>simp[q1,q2]
          · rw[hhalf q1]
            by_cases q2:(A0 Ab st (Aj fr o) v (Bu st v)).length=0<;>simp[q1,q2]
        · obtain⟨t,ht⟩:∃t,i=o.length+1+t:=⟨i-o.length-1,by omega⟩
          have htf:t < f.length:=by omega
          have hnth:nth a i=f[t]:=by
            rw[ha,L0 (by omega),show i-o.length=t+1 by omega]
            show nth (f++(r++en)) t=_
            rw[Pz htf,El htf]
          have hq:=hquiet _ (List.getElem_mem htf)
          have htk:a.take i=o++sv::f.take t:=by
            rw[ha,List.take_append,List.take_of_length_le (by omega),show i-o.length=t+1 by omega,List.take_succ_cons,List.take_append_of_le_length (by omega)]
          have hlast:Fo (a.take i)=v:=by
            rw[htk]
            unfold Fo
            rw[List.foldl_append,List.foldl_cons,if_pos (hsk.2.1 hvm).1,Z8v _ _ fun s hs=>(hquiet s (List.mem_of_mem_take hs)).1,hsk.1]
          have hsom:D5 z (i:Int)=false:=by
            refine(O4 fun x hx=>?_).1
            rw[hz] at hx
            rcases List.mem_append.1 hx with hx|hx
            · rcases List.mem_append.1 hx with hx|hx
              · have:=hk x hx;omega
              · have:=hbk x hx;omega
            · have:=hb2 x hx;omega
          unfold Ji
          rw[hnth,if_neg (by rw[hq.1];simp),hsom,hlast,hq.2];simp
theorem X2fv {st:PoolT} {fr tw:List Int} (ha:∀x∈fr,0≤x∧x < st.all.length) (hb:∀x∈tw,0≤x∧x < st.all.length):∀i,i < (C7 Ab st fr tw).1.length→Ji st (C7 Ab st fr tw).1 (C7 Ab st fr tw).2.1 i (Aj fr ((C7 Ab st fr tw).1.take i)) (Fo ((C7 Ab st fr tw).1.take i))=true:=by
  have hq:=Jg (m:=Ab) ha hb
  have e:C7 Ab st fr tw=((Dd Ab st (Cm (Bs Ab st) fr tw) fr (Ae tw fr).length (Ae tw fr) [] []).1++(Cm (Bs Ab st) fr tw).filter Cr,(Dd Ab st (Cm (Bs Ab st) fr tw) fr (Ae tw fr).length (Ae tw fr) [] []).2,0):=by
    unfold C7;rw[hq,if_neg (by simp)]
  rw[e]
  intro i hi
  exact X2g (st:=st) (fr:=fr) (tw:=tw) (Ae tw fr).length (Ae tw fr) [] [] (Nat.le_refl _) (fun x hx=>hx) (Fm _ _) (fun x hx=>by cases hx) i (Nat.zero_le _) _ _ rfl rfl hi
end
end Sv
end
section
open Go Go.RowKit
namespace Sv
attribute [local irreducible] SW SO Bn
set_option maxHeartbeats 1000000
set_option maxRecDepth 100000
theorem Q8lv {es:List AV} {l:List DepT} (h:es=l.map Ak):Imp (.row 5 es.length (fun ix=>es.getD ix Bp)) (Ac 5 Ak l):=by
 subst h;exact Imp.list (f:=Ak) (List.length_map _)
theorem X04 {st:PoolT} {th:List Int} {id:Int} {l:List DepT} {es:List AV} (h:B3 (fun d=>(Cf Ab st d (Aw th [id])).1) l = -1) (he:es=l.map Ak):Imp (.row 5 es.length (fun ix=>es.getD ix Bp)) (Ac 5 Ak (A0 Ab st th id l)):=by
 rw[show A0 Ab st th id l=l from Q1gv _ l h]
 subst he;exact Imp.list (f:=Ak) (List.length_map _)
theorem X03 {st:PoolT} {th:List Int} {id:Int} {l:List DepT} (h:l=[]):Imp .nils (Ac 5 Ak (A0 Ab st th id l)):=by
 subst h;exact Imp.nil (f:=Ak)
theorem X02v {st:PoolT} {th:List Int} {id:Int} {l T:List DepT} {i:Nat} {z:List AV} (h:T.take i=A0 Ab st th id l) (hi:i≤T.length):Imp (.row 5 (i-0) (fun kx=>((T.map Ak).take i++z).getD (0+kx) Bp)) (Ac 5 Ak (A0 Ab st th id l)):=by
 rw[←h]
 have e:(T.take i).length=i:=by rw[List.length_take];omega
 unfold Ac
 rw[e]
 refine Imp.row fun q hq=>Imp.of_eq ?_
 rw[Nat.zero_add,←List.map_take,List.getD_eq_getElem?_getD,List.getElem?_append_left (by rw[List.length_map,e];omega),List.getElem?_map]
 have hq:q < (T.take i).length:=by rw[e];omega
 rw[List.getElem?_eq_getElem hq]
 simp[nth,List.getElem?_eq_getElem hq]
theorem Uhv:Au Tryz.prog 67:=Ay Tryz.func67 (by kernel_rfl) rfl
theorem Qmv:Au Tryz.prog 68:=Ay Tryz.func68 (by kernel_rfl) rfl
theorem Ufv:Au Tryz.prog 72:=Ay Tryz.func72 (by kernel_rfl) rfl
theorem Q1qv:Au Tryz.prog 70:=Ay Tryz.func70 (by kernel_rfl) rfl
theorem Uv (a : List Int) (o : List Bc) (q : Bc) (ho : o.length ≤ 1048576) (ha : a.length ≤ 1048576) :
  Gf Tryz.prog 67 [(.agg [(.int .i64 q.1),(.int .i64 q.2.1),(.int .i64 q.2.2)]),(.ptr 0 0),(.ptr 1 0)] [(0,(.row [(.own 2)] 53)),(1,(.row [(Ag (Aj a o))] 26)),(2,(.grow (o.map A3) 66 3))] 3 (.tup []) [(0,(.row [(.own 2)] 53)),(1,(.row [(Ag (Aj a (o++[q])))] 26)),(2,(.grow ((o++[q]).map A3) 66 3))]:=by
 have hal:=Q6 a o
 have hol:(o.map A3).length=o.length:=List.length_map _
 refine Le [] Tryz.func67 rfl Tryz.ntmps67 rfl rfl (by kernel_rfl) (by kernel_rfl) (by kernel_rfl) (fun B F hF=>?_)
 refine Aa [] [1,2,3] ?_
 refine Af [] [2,3] [(0,3)] hk0 v0 (cc 3 (p:=(((o.map A3).length+1)*24≤140737488355328)) (by first|omega|(simp;omega)|(simp;done)|(intros;simp_all;omega)|(intros;simp_all;done))<|c0) ?_
 refine Ap ?_
 refine Av 0 [] [] [(3,10)] (hk 3 Um ((V3 (Aj a o) [q] (by omega) (by simp)).to (Same.of_eq (by rw[Vhv])))<|hk0) (vk 3 10 (b:=(Ac 3 A3 [q])) (Imp.list (f:=A3) rfl)<|v0) c0 ?_
 refine Ej (.inr rfl) (al:=[]) (by kernel_rfl) ?_ ((by kernel_rfl:Dl 3 _=some [(0,(.row [(.own 2)] 53)),(1,(.row [(Ag (Aj a (o++[q])))] 26)),(2,(.grow ((o.map A3)++([(.agg [(.int .i64 q.1),(.int .i64 q.2.1),(.int .i64 q.2.2)])]:List AV)) 66 3))]).trans ?_)
 ·rfl
 ·rw[List.map_append];rfl
theorem S1v (st : PoolT) (hi : IdxOk st) (w : List Int) (d : DepT) (hd : d.size ≤ 4194304) (hw : w.length ≤ 4611686018427387904) :
  FnV Tryz.prog 72 [(.agg [(.int .i64 d.kind),(.str d.name),(.int .i64 d.op),(.str d.evr),(.row 5 d.args.length (depAt d.args))]),(.fp (.agg [(.fp (A4 st))])),(.fp (.agg [(Ag w)]))] (.bool ((Cf Ab st d w).1)):=by
 refine A5 [.tmp 4] Tryz.func72 rfl Tryz.ntmps72 rfl rfl (fun B F hF=>?_)
 refine Af [] [1,2,3] [(1,3)] hk0 v0 c0 ?_
 refine Af [] [5] [] (hk 3 Q2f (Q5f Ab Ti st hi d w hd hw)<|hk0) v0 c0 ?_
 refine Aa [] [4] ?_
 refine Ah ?_
 refine RK wR [(.bool ((Cf Ab st d w).1))] ?_
 exact Same.of_eq (by first|rfl|(simp only[An];simp_all))
theorem P4v (st : PoolT) (hi0 : IdxOk st) (th : List Int) (ht : th.length ≤ 4194303) (id : Int) (l : List DepT) (hll : l.length ≤ 4194304) (hl : ∀ i, i < l.length → (nth l i).size ≤ 4194304) :
  Gf Tryz.prog 68 [(.int .i64 id),(Ac 5 Ak l),(.ptr 0 0),(.fp (.agg [(.fp (A4 st))]))] [(0,(.row [(Ag th)] 26))] 1 (Ac 5 Ak (A0 Ab st th id l)) [(0,(.row [(Ag th)] 26))]:=by
 have hul:=Wg th [id]
 rw[List.length_singleton] at hul
 have hle:=L8 (fun d=>(Cf Ab st d (Aw th [id])).1) l
 refine Le [.tmp 6] Tryz.func68 rfl Tryz.ntmps68 rfl rfl (by kernel_rfl) (by kernel_rfl) (by kernel_rfl) (fun B F hF=>?_)
 refine Aa [] [0,1,2,3] ?_
 refine Af [] [1,3,7] [(3,10)] (hk 3 Uh (Tt th [id] (by omega) (by simp))<|hk0) (vk 3 10 (b:=(Ag [id])) (Imp.list (f:=AV.int .i64) rfl)<|v0) c0 ?_
 refine Ad ?_
 refine Ap ?_
 refine Br 1 0 [] [3,7,12] [] hk0 v0 c0 ?_
 refine J7 [.tmp 2] (al:=[(Ac 5 Ak l)]) (s0:=[(3,(.fp (.agg [(.fp (A4 st))]))),(7,(.ptr 2 0)),(12,(Ac 5 Ak l))]) (by kernel_rfl) (by exact Q1q) (by kernel_rfl) Tryz.func71 rfl Tryz.ntmps71 rfl (by kernel_rfl) (by kernel_rfl) (fun F1 hF1 hle1=>?_)
 refine Aa [] [0] ?_
 refine Ad ?_
 refine Ad ?_
 refine Ap ?_
 refine Br 1 0 [] [0,3] [] hk0 v0 c0 ?_
 refine Rj (G:=Jl (Ac 5 Ak l)) (sz:=5) (m:=l.length) (e:=25) (by kernel_rfl) (by kernel_rfl) (by kernel_rfl) (by kernel_rfl) (fun nq1_1=>⟨[(0,(Ac 5 Ak l)),(3,(Ac 5 Ak l)),(4,(.bool nq1_1))],by kernel_rfl,fun hnq1_1=>?_⟩)
 refine B5 ?_
 refine A8 (q:=nq1_1) (by kernel_rfl) (fun c1=>?_) (fun c1=>?_)
 ·try simp only[Ao] at c1
  refine Aa [] [2] ?_
  refine Ah ?_
  refine G4 (.inl rfl) (al:=[.nils]) (s':=[(3,(.fp (.agg [(.fp (A4 st))]))),(7,(.ptr 2 0)),(12,(Ac 5 Ak l)),(13,.nils)]) (by kernel_rfl) (by kernel_rfl) ?_
  refine Br 1 2 [] [13,14] [(2,7)] hk0 v0 c0 ?_
  refine J7 [.tmp 4] (al:=[.nils,(.fn 72 [] [(.fp (.agg [(.fp (A4 st))])),(.fp (.agg [(Ag (Aw th [id]))]))])]) (s0:=[(13,.nils),(14,(.fn 72 [] [(.fp (.agg [(.fp (A4 st))])),(.fp (.agg [(Ag (Aw th [id]))]))]))]) (by kernel_rfl) (by exact Q1qv) (by kernel_rfl) Tryz.func70 rfl Tryz.ntmps70 rfl (by kernel_rfl) (by kernel_rfl) (fun F2 hF2 hle2=>?_)
  refine Aa [] [0,1] ?_
  refine Ad ?_
  refine Ap ?_
  refine Br 2 0 [] [0,1,8,9] [] hk0 v0 c0 ?_
  refine Jd (s':=[(0,.nils),(1,(.fn 72 [] [(.fp (.agg [(.fp (A4 st))])),(.fp (.agg [(Ag (Aw th [id]))]))])),(8,.nils),(9,(.fn 72 [] [(.fp (.agg [(.fp (A4 st))])),(.fp (.agg [(Ag (Aw th [id]))]))])),(10,(.int .i64 (-1)))]) (al:=[.nils,(.fn 72 [] [(.fp (.agg [(.fp (A4 st))])),(.fp (.agg [(Ag (Aw th [id]))]))])]) (al':=[.nils,(.fn 72 [] [(.fp (.agg [(.fp (A4 st))])),(.fp (.agg [(Ag (Aw th [id]))]))])]) (h':=[(0,(.row [(Ag th)] 26))]) (r:=(.int .i64 (-1))) (by kernel_rfl) (by exact Ur) (by kernel_rfl) (by kernel_rfl) (((Uy [] (.fn 72 [] [(.fp (.agg [(.fp (A4 st))])),(.fp (.agg [(Ag (Aw th [id]))]))]) (fun d=>(Cf Ab st d (Aw th [id])).1) (by first|omega|simp) (fun i hi=>FunV.of (by exact Ufv) (S1v st hi0 (Aw th [id]) (nth [] i) (by first|omega|(exact hl i hi)|(simp at hi)) (by omega)))).of_args (ImpL.cons Imp.nil (ImpL.cons (Imp.clo (by kernel_rfl)) ImpL.nil))).to (Same.of_eq rfl)) rfl (by kernel_rfl) ?_
  refine Av 3 [] [0,1,5] [] hk0 v0 c0 ?_
  refine Ad ?_
  refine Aa [] [0,1,5,12] ?_
  refine Gd (by kernel_rfl) ?_
  refine Aa [] [4] ?_
  refine Ah ?_
  refine G4 (.inl rfl) (al:=[.nils]) (s':=[(13,.nils),(14,(.fn 72 [] [(.fp (.agg [(.fp (A4 st))])),(.fp (.agg [(Ag (Aw th [id]))]))])),(15,.nils)]) (by kernel_rfl) (by kernel_rfl) ?_
  refine Av 4 [] [6] [] hk0 (vk 4 15 (a:=.nils) (b:=(Ac 5 Ak (A0 Ab st th id l))) (show Imp .nils (Ac 5 Ak (A0 Ab st th id l)) from X03 (List.length_eq_zero_iff.1 (by have:=hnq1_1 (by simp_all);simp_all)))<|v0) c0 ?_
  refine Ah ?_
  refine Ej (.inl rfl) (al:=[(Ac 5 Ak (A0 Ab st th id l))]) (by kernel_rfl) ?_ ((by kernel_rfl:Dl 1 _=some [(0,(.row [(Ag th)] 26))]).trans ?_)
  ·rfl
  ·rfl
 ·try simp only[Ao] at c1
  refine Ai ?_
  refine Af [] [2] [] hk0 v0 (cc 2 (p:=((([]:List AV).length+l.length)*72≤140737488355328)) (by first|omega|(simp;omega)|(simp;done)|(intros;simp_all;omega)|(intros;simp_all;done))<|c0) ?_
  refine Ah ?_
  refine G4 (.inl rfl) (al:=[(.own 4)]) (s':=[(3,(.fp (.agg [(.fp (A4 st))]))),(7,(.ptr 2 0)),(12,(Ac 5 Ak l)),(13,(.own 4))]) (by kernel_rfl) (by kernel_rfl) ?_
  refine Br 1 2 [] [13,14] [(2,7)] hk0 v0 c0 ?_
  refine J7 [.tmp 4] (al:=[(.own 4),(.fn 72 [] [(.fp (.agg [(.fp (A4 st))])),(.fp (.agg [(Ag (Aw th [id]))]))])]) (s0:=[(13,Bp),(14,(.fn 72 [] [(.fp (.agg [(.fp (A4 st))])),(.fp (.agg [(Ag (Aw th [id]))]))]))]) (by kernel_rfl) (by exact Q1qv) (by kernel_rfl) Tryz.func70 rfl Tryz.ntmps70 rfl (by kernel_rfl) (by kernel_rfl) (fun F3 hF3 hle3=>?_)
  have hF3:F3.lo=5:=hF3.trans (by kernel_rfl)
  refine Aa [] [0,1] ?_
  refine Ad ?_
  refine Ap ?_
  refine Br 2 0 [] [0,1,8,9] [] hk0 v0 c0 ?_
  refine Jd (s':=[(0,(.own 4)),(1,(.fn 72 [] [(.fp (.agg [(.fp (A4 st))])),(.fp (.agg [(Ag (Aw th [id]))]))])),(8,(.own 4)),(9,(.fn 72 [] [(.fp (.agg [(.fp (A4 st))])),(.fp (.agg [(Ag (Aw th [id]))]))])),(10,(.int .i64 (B3 (fun d=>(Cf Ab st d (Aw th [id])).1) l)))]) (al:=[(.own 4),(.fn 72 [] [(.fp (.agg [(.fp (A4 st))])),(.fp (.agg [(Ag (Aw th [id]))]))])]) (al':=[(.row 5 (([]:List AV)++((List.range l.length).map (fun kx=>((.agg [(.int .i64 ((nth l kx).kind)),(.str ((nth l kx).name)),(.int .i64 ((nth l kx).op)),(.str ((nth l kx).evr)),(.row 5 (nth l kx).args.length (depAt (nth l kx).args))]):AV)))).length (fun ix=>(([]:List AV)++((List.range l.length).map (fun kx=>((.agg [(.int .i64 ((nth l kx).kind)),(.str ((nth l kx).name)),(.int .i64 ((nth l kx).op)),(.str ((nth l kx).evr)),(.row 5 (nth l kx).args.length (depAt (nth l kx).args))]):AV)))).getD ix Bp)),(.fn 72 [] [(.fp (.agg [(.fp (A4 st))])),(.fp (.agg [(Ag (Aw th [id]))]))])]) (h':=[(0,(.row [(Ag th)] 26))]) (r:=(.int .i64 (B3 (fun d=>(Cf Ab st d (Aw th [id])).1) l))) (by kernel_rfl) (by exact Ur) (by kernel_rfl) (by kernel_rfl) ((Uy l (.fn 72 [] [(.fp (.agg [(.fp (A4 st))])),(.fp (.agg [(Ag (Aw th [id]))]))]) (fun d=>(Cf Ab st d (Aw th [id])).1) (by first|omega|simp) (fun i hi=>FunV.of (by exact Ufv) (S1v st hi0 (Aw th [id]) (nth l i) (by first|omega|(exact hl i hi)|(simp at hi)) (by omega)))).of_args (ImpL.cons (Q8lv (Lr Ak)) (ImpL.cons (Imp.clo (by kernel_rfl)) ImpL.nil))) rfl (by kernel_rfl) ?_
  refine Av 3 [] [0,1,5] [] hk0 v0 c0 ?_
  refine Ad ?_
  refine Aa [] [0,1,5,12] ?_
  refine A6 (p:=(B3 (fun d=>(Cf Ab st d (Aw th [id])).1) l)=(-1)) (by kernel_rfl) (fun c2=>?_) (fun c2=>?_)
  ·refine Aa [] [4] ?_
   refine Ah ?_
   refine G4 (.inl rfl) (al:=[(.own 4)]) (s':=[(13,Bp),(14,(.fn 72 [] [(.fp (.agg [(.fp (A4 st))])),(.fp (.agg [(Ag (Aw th [id]))]))])),(15,(.own 4))]) (by kernel_rfl) (by kernel_rfl) ?_
   refine Av 4 [] [6] [(4,15)] hk0 (vk 4 15 (b:=(Ac 5 Ak (A0 Ab st th id l))) (show Imp (.row 5 (([]:List AV)++((List.range l.length).map (fun kx=>((.agg [(.int .i64 ((nth l kx).kind)),(.str ((nth l kx).name)),(.int .i64 ((nth l kx).op)),(.str ((nth l kx).evr)),(.row 5 (nth l kx).args.length (depAt (nth l kx).args))]):AV)))).length (fun ix=>(([]:List AV)++((List.range l.length).map (fun kx=>((.agg [(.int .i64 ((nth l kx).kind)),(.str ((nth l kx).name)),(.int .i64 ((nth l kx).op)),(.str ((nth l kx).evr)),(.row 5 (nth l kx).args.length (depAt (nth l kx).args))]):AV)))).getD ix Bp)) (Ac 5 Ak (A0 Ab st th id l)) from X04 (by assumption) (Lr Ak))<|v0) c0 ?_
   refine Ah ?_
   refine Ej (.inl rfl) (al:=[(Ac 5 Ak (A0 Ab st th id l))]) (by kernel_rfl) ?_ ((by kernel_rfl:Dl 1 _=some [(0,(.row [(Ag th)] 26))]).trans ?_)
   ·rfl
   ·rfl
  ·refine Ai ?_
   refine Ad ?_
   refine Af [] [0,1,5,6] [] hk0 v0 (cc 1 (p:=(-9223372036854775808≤(B3 (fun d=>(Cf Ab st d (Aw th [id])).1) l)+1∧(B3 (fun d=>(Cf Ab st d (Aw th [id])).1) l)+1≤9223372036854775807)) (by first|omega|(simp;omega)|(simp;done)|(intros;simp_all;omega)|(intros;simp_all;done))<|c0) ?_
   refine A1 ?_
   refine Bz (fun g y=>∃(i j:Nat) (T:List DepT),i < j∧j≤l.length∧T.length=l.length∧T.drop j=l.drop j∧T.take i=A0 Ab st th id (l.take j)∧y=⟨[(0,(.own 4)),(1,(.fn 72 [] [(.fp (.agg [(.fp (A4 st))])),(.fp (.agg [(Ag (Aw th [id]))]))])),(5,(.int .i64 ((i:Int)))),(6,(.int .i64 ((j:Int))))],[(0,(.row [(Ag th)] 26)),(4,(.grow (T.map Ak) 25 5))],5⟩∧g=l.length-j) [0,1,5,6] 5 _ (by omega) ⟨(B3 (fun d=>(Cf Ab st d (Aw th [id])).1) l).toNat,(B3 (fun d=>(Cf Ab st d (Aw th [id])).1) l).toNat+1,l,(by omega),(by omega),(by rfl),(by rfl),(by exact(Q1h _ l (by omega)).symm),(Eq.trans (b:=(⟨[(0,(.own 4)),(1,(.fn 72 [] [(.fp (.agg [(.fp (A4 st))])),(.fp (.agg [(Ag (Aw th [id]))]))])),(5,(.int .i64 (B3 (fun d=>(Cf Ab st d (Aw th [id])).1) l))),(6,(.int .i64 ((B3 (fun d=>(Cf Ab st d (Aw th [id])).1) l)+1)))],[(0,(.row [(Ag th)] 26)),(4,(.grow (([]:List AV)++((List.range l.length).map (fun kx=>((.agg [(.int .i64 ((nth l kx).kind)),(.str ((nth l kx).name)),(.int .i64 ((nth l kx).op)),(.str ((nth l kx).evr)),(.row 5 (nth l kx).args.length (depAt (nth l kx).args))]):AV)))) 25 5))],5⟩:St)) (by kernel_rfl) (by rw[show(((B3 (fun d=>(Cf Ab st d (Aw th [id])).1) l).toNat+1:Nat):Int)=B3 (fun d=>(Cf Ab st d (Aw th [id])).1) l+1 from by omega,show(((B3 (fun d=>(Cf Ab st d (Aw th [id])).1) l).toNat:Nat):Int)=B3 (fun d=>(Cf Ab st d (Aw th [id])).1) l from by omega,show l.map Ak=[]++(List.range l.length).map (fun kx=>Ak (nth l kx)) from (Lr Ak).symm]<;>kernel_rfl)),rfl⟩ ?_
   rintro g1 y1 ⟨i,j,T,hij,hjl,hTl,hTd,hTt,rfl,rfl⟩
   have htl:(T.map Ak).length=T.length:=List.length_map _
   have hdj:j < l.length→(nth T j).size≤4194304:=fun h=>by rw[Qtv hTd];exact hl j h
   refine Ad ?_
   refine Aa [] [0,1,5,6,19] ?_
   refine A6 (p:=(j:Int) < ((T.map Ak).length:Int)) (by kernel_rfl) (fun c3=>?_) (fun c3=>?_)
   ·refine Ai ?_
    refine Ad ?_
    refine A1 ?_
    refine Ad ?_
    refine Ap ?_
    refine Br 2 0 [] [0,1,5,6,22,23] [] hk0 v0 c0 ?_
    refine Mw (b:=4) (i:=j) (es:=T.map Ak) (e:=25) (sz:=5) (k:=.i64) (s':=[(0,(.own 4)),(1,(.fn 72 [] [(.fp (.agg [(.fp (A4 st))])),(.fp (.agg [(Ag (Aw th [id]))]))])),(5,(.int .i64 ((i:Int)))),(6,(.int .i64 ((j:Int)))),(22,(.own 4)),(23,(.int .i64 ((j:Int)))),(24,(.op 4 (j*5)))]) (by kernel_rfl) (by kernel_rfl) (by kernel_rfl) (by kernel_rfl) (by kernel_rfl) (by kernel_rfl) (by first|omega|(simp;omega)|(simp;done)|(intros;simp_all;omega)|(intros;simp_all;done)) (by kernel_rfl) ?_
    refine Ri (b:=4) (e:=25) (sz:=5) (es:=T.map Ak) (o:=j*5) (i:=j) (j:=0) (a:=(.agg [(.int .i64 ((nth T j).kind)),(.str ((nth T j).name)),(.int .i64 ((nth T j).op)),(.str ((nth T j).evr)),(.row 5 (nth T j).args.length (depAt (nth T j).args))])) (r:=(.agg [(.int .i64 ((nth T j).kind)),(.str ((nth T j).name)),(.int .i64 ((nth T j).op)),(.str ((nth T j).evr)),(.row 5 (nth T j).args.length (depAt (nth T j).args))])) (s':=[(0,(.own 4)),(1,(.fn 72 [] [(.fp (.agg [(.fp (A4 st))])),(.fp (.agg [(Ag (Aw th [id]))]))])),(5,(.int .i64 ((i:Int)))),(6,(.int .i64 ((j:Int)))),(22,(.own 4)),(23,(.int .i64 ((j:Int)))),(24,(.op 4 (j*5))),(25,(.agg [(.int .i64 ((nth T j).kind)),(.str ((nth T j).name)),(.int .i64 ((nth T j).op)),(.str ((nth T j).evr)),(.row 5 (nth T j).args.length (depAt (nth T j).args))]))]) (by kernel_rfl) (by kernel_rfl) rfl (by kernel_rfl) (Mb (l:=T) Ak (by omega)) (by kernel_rfl) (by kernel_rfl) ?_
    refine Av 4 [] [0,1,5,6,7] [] hk0 v0 c0 ?_
    refine Ad ?_
    refine Ap ?_
    refine Br 2 0 [] [0,1,5,6,7,26,27] [(0,7)] hk0 v0 c0 ?_
    refine Q43 (f:=72) (cap:=[(.fp (.agg [(.fp (A4 st))])),(.fp (.agg [(Ag (Aw th [id]))]))]) (s':=[(0,(.own 4)),(1,(.fn 72 [] [(.fp (.agg [(.fp (A4 st))])),(.fp (.agg [(Ag (Aw th [id]))]))])),(5,(.int .i64 ((i:Int)))),(6,(.int .i64 ((j:Int)))),(7,(.fp (.agg [(.int .i64 ((nth T j).kind)),(.str ((nth T j).name)),(.int .i64 ((nth T j).op)),(.str ((nth T j).evr)),(.row 5 (nth T j).args.length (depAt (nth T j).args))]))),(26,(.fn 72 [] [(.fp (.agg [(.fp (A4 st))])),(.fp (.agg [(Ag (Aw th [id]))]))])),(27,(.agg [(.int .i64 ((nth T j).kind)),(.str ((nth T j).name)),(.int .i64 ((nth T j).op)),(.str ((nth T j).evr)),(.row 5 (nth T j).args.length (depAt (nth T j).args))])),(28,(.bool ((Cf Ab st (nth T j) (Aw th [id])).1)))]) (al:=[(.agg [(.int .i64 ((nth T j).kind)),(.str ((nth T j).name)),(.int .i64 ((nth T j).op)),(.str ((nth T j).evr)),(.row 5 (nth T j).args.length (depAt (nth T j).args))])]) (r:=(.bool ((Cf Ab st (nth T j) (Aw th [id])).1))) (by kernel_rfl) (by kernel_rfl) (by exact Ufv) (by kernel_rfl) (by kernel_rfl) (S1v st hi0 (Aw th [id]) (nth T j) (hdj (by omega)) (by omega)) (by kernel_rfl) ?_
    refine Av 3 [] [0,1,5,6,7,29] [] hk0 v0 c0 ?_
    refine A8 (q:=!((Cf Ab st (nth T j) (Aw th [id])).1)) (by kernel_rfl) (fun c4=>?_) (fun c4=>?_)
    ·try simp only[Ao] at c4
     refine Ad ?_
     refine Ap ?_
     refine Br 3 0 [] [0,1,5,6,30,31,32] [] hk0 v0 c0 ?_
     refine Mw (b:=4) (i:=i) (es:=T.map Ak) (e:=25) (sz:=5) (k:=.i64) (s':=[(0,(.own 4)),(1,(.fn 72 [] [(.fp (.agg [(.fp (A4 st))])),(.fp (.agg [(Ag (Aw th [id]))]))])),(5,(.int .i64 ((i:Int)))),(6,(.int .i64 ((j:Int)))),(30,(.own 4)),(31,(.int .i64 ((i:Int)))),(32,(.agg [(.int .i64 ((nth T j).kind)),(.str ((nth T j).name)),(.int .i64 ((nth T j).op)),(.str ((nth T j).evr)),(.row 5 (nth T j).args.length (depAt (nth T j).args))])),(33,(.op 4 (i*5)))]) (by kernel_rfl) (by kernel_rfl) (by kernel_rfl) (by kernel_rfl) (by kernel_rfl) (by kernel_rfl) (by first|omega|(simp;omega)|(simp;done)|(intros;simp_all;omega)|(intros;simp_all;done)) (by kernel_rfl) ?_
     refine Q41 (b:=4) (e:=25) (sz:=5) (es:=T.map Ak) (o:=i*5) (i:=i) (j:=0) (a:=(.agg [(.int .i64 ((nth T i).kind)),(.str ((nth T i).name)),(.int .i64 ((nth T i).op)),(.str ((nth T i).evr)),(.row 5 (nth T i).args.length (depAt (nth T i).args))])) (r:=(.agg [(.int .i64 ((nth T j).kind)),(.str ((nth T j).name)),(.int .i64 ((nth T j).op)),(.str ((nth T j).evr)),(.row 5 (nth T j).args.length (depAt (nth T j).args))])) (v:=(.agg [(.int .i64 ((nth T j).kind)),(.str ((nth T j).name)),(.int .i64 ((nth T j).op)),(.str ((nth T j).evr)),(.row 5 (nth T j).args.length (depAt (nth T j).args))])) (s':=[(0,(.own 4)),(1,(.fn 72 [] [(.fp (.agg [(.fp (A4 st))])),(.fp (.agg [(Ag (Aw th [id]))]))])),(5,(.int .i64 ((i:Int)))),(6,(.int .i64 ((j:Int)))),(30,(.own 4)),(31,(.int .i64 ((i:Int)))),(32,(.agg [(.int .i64 ((nth T j).kind)),(.str ((nth T j).name)),(.int .i64 ((nth T j).op)),(.str ((nth T j).evr)),(.row 5 (nth T j).args.length (depAt (nth T j).args))])),(33,(.op 4 (i*5)))]) (by kernel_rfl) (by kernel_rfl) rfl (by kernel_rfl) (by kernel_rfl) (Mb (l:=T) Ak (by omega)) (by kernel_rfl) (by kernel_rfl) ?_
     refine B5 ?_
     refine Ap ?_
     refine Av 0 [] [0,1,5,6] [] hk0 v0 (cc 1 (p:=(-9223372036854775808≤(i:Int)+1∧(i:Int)+1≤9223372036854775807)) (by first|omega|(simp;omega)|(simp;done)|(intros;simp_all;omega)|(intros;simp_all;done))<|c0) ?_
     refine Ap ?_
     refine Av 0 [] [0,1,5,6] [] hk0 v0 (cc 1 (p:=(-9223372036854775808≤(j:Int)+1∧(j:Int)+1≤9223372036854775807)) (by first|omega|(simp;omega)|(simp;done)|(intros;simp_all;omega)|(intros;simp_all;done))<|c0) ?_
     have hk:=X1av (p:=(fun d => !(Cf Ab st d (Aw th [id])).1)) (T:=T) (l:=l) (i:=i) (j:=j) (by omega) (by omega) (by assumption) (by assumption) (by assumption) (by show(!_)=true;rw[c4];rfl)
     refine⟨by kernel_rfl,_,?_,i+1,j+1,(T.set i (nth T j)),?_,?_,?_,?_,?_,(Eq.trans (b:=(⟨[(0,(.own 4)),(1,(.fn 72 [] [(.fp (.agg [(.fp (A4 st))])),(.fp (.agg [(Ag (Aw th [id]))]))])),(5,(.int .i64 ((i:Int)+1))),(6,(.int .i64 ((j:Int)+1)))],[(0,(.row [(Ag th)] 26)),(4,(.grow ((T.map Ak).set i (.agg [(.int .i64 ((nth T j).kind)),(.str ((nth T j).name)),(.int .i64 ((nth T j).op)),(.str ((nth T j).evr)),(.row 5 (nth T j).args.length (depAt (nth T j).args))])) 25 5))],5⟩:St)) (by kernel_rfl) (by rw[show(T.set i (nth T j)).map Ak=(T.map Ak).set i (Ak (nth T j)) from List.map_set ..]<;>kernel_rfl)),rfl⟩
     ·omega
     ·omega
     ·omega
     ·rw[List.length_set];assumption
     ·exact hk.1
     ·exact hk.2
    ·try simp only[Ao] at c4
     refine Ai ?_
     refine Ap ?_
     refine Av 0 [] [0,1,5,6] [] hk0 v0 (cc 1 (p:=(-9223372036854775808≤(j:Int)+1∧(j:Int)+1≤9223372036854775807)) (by first|omega|(simp;omega)|(simp;done)|(intros;simp_all;omega)|(intros;simp_all;done))<|c0) ?_
     refine⟨by kernel_rfl,_,?_,i,j+1,T,?_,?_,?_,?_,?_,(by kernel_rfl),rfl⟩
     ·omega
     ·omega
     ·omega
     ·assumption
     ·exact Q2rv (by assumption)
     ·exact X1b (p:=(fun d => !(Cf Ab st d (Aw th [id])).1)) (by omega) (by assumption) (by assumption) (by show(!_)=false;rw[c4];rfl)
   ·refine Bt ?_
    refine Ad ?_
    refine Ap ?_
    refine Br 2 0 [] [0,5,36,37] [] hk0 v0 c0 ?_
    refine X7k (b:=4) (i:=i) (es:=T.map Ak) (e:=25) (sz:=5) (k:=.i64) (z:=((.agg [(.int .i64 0),(.str []),(.int .i64 0),(.str []),.nils]):AV)) (s1:=[(0,(.own 4)),(5,(.int .i64 ((i:Int)))),(36,(.own 4)),(37,(.int .i64 ((i:Int)))),(38,(.cond false (.str [])))]) (s2:=[(0,(.own 4)),(5,(.int .i64 ((i:Int)))),(36,(.own 4)),(37,(.int .i64 ((i:Int)))),(38,(.cond false (.str [])))]) (by kernel_rfl) (by kernel_rfl) (by kernel_rfl) (by kernel_rfl) (by kernel_rfl) (by kernel_rfl) (by kernel_rfl) (by first|omega|(simp;omega)|(simp;done)|(intros;simp_all;omega)|(intros;simp_all;done)) (by kernel_rfl) (by kernel_rfl) (by kernel_rfl) (by kernel_rfl) (by kernel_rfl) ?_
    refine B5 ?_
    refine Ad ?_
    refine Ap ?_
    refine Br 1 0 [] [5,39] [] hk0 v0 c0 ?_
    refine Vs 39 (y:=⟨[(5,(.int .i64 ((i:Int)))),(39,(.row 5 ((T.map Ak).take i++List.replicate ((T.map Ak).length-i) ((.agg [(.int .i64 0),(.str []),(.int .i64 0),(.str []),.nils]):AV)).length (fun ix=>((T.map Ak).take i++List.replicate ((T.map Ak).length-i) ((.agg [(.int .i64 0),(.str []),(.int .i64 0),(.str []),.nils]):AV)).getD ix Bp)))],[(0,(.row [(Ag th)] 26))],5⟩) (by kernel_rfl) ?_
    refine Av 1 [] [4] [] hk0 v0 (cc 2 (p:=(0≤(0:Int)∧(0:Int)≤(i:Int)∧(i:Int)≤(((T.map Ak).take i++List.replicate ((T.map Ak).length-i) ((.agg [(.int .i64 0),(.str []),(.int .i64 0),(.str []),.nils]):AV)).length:Int))) (by first|omega|(simp;omega)|(simp;done)|(intros;simp_all;omega)|(intros;simp_all;done))<|c0) ?_
    refine Ah ?_
    refine G4 (.inl rfl) (al:=[(.row 5 (i-0) (fun kx=>(((T.map Ak).take i++List.replicate ((T.map Ak).length-i) ((.agg [(.int .i64 0),(.str []),(.int .i64 0),(.str []),.nils]):AV)).getD (0+kx) Bp)))]) (s':=[(13,Bp),(14,(.fn 72 [] [(.fp (.agg [(.fp (A4 st))])),(.fp (.agg [(Ag (Aw th [id]))]))])),(15,(.row 5 (i-0) (fun kx=>(((T.map Ak).take i++List.replicate ((T.map Ak).length-i) ((.agg [(.int .i64 0),(.str []),(.int .i64 0),(.str []),.nils]):AV)).getD (0+kx) Bp))))]) (by kernel_rfl) (by kernel_rfl) ?_
    refine Av 4 [] [6] [] hk0 (vk 4 15 (a:=(.row 5 (i-0) (fun kx=>(((T.map Ak).take i++List.replicate ((T.map Ak).length-i) ((.agg [(.int .i64 0),(.str []),(.int .i64 0),(.str []),.nils]):AV)).getD (0+kx) Bp)))) (b:=(Ac 5 Ak (A0 Ab st th id l))) (show Imp (.row 5 (i-0) (fun kx=>(((T.map Ak).take i++List.replicate ((T.map Ak).length-i) ((.agg [(.int .i64 0),(.str []),(.int .i64 0),(.str []),.nils]):AV)).getD (0+kx) Bp))) (Ac 5 Ak (A0 Ab st th id l)) from X02v (T:=T) (i:=i) (hTt.trans (by rw[List.take_of_length_le (show l.length≤j by omega)])) (by omega))<|v0) c0 ?_
    refine Ah ?_
    refine Ej (.inl rfl) (al:=[(Ac 5 Ak (A0 Ab st th id l))]) (by kernel_rfl) ?_ ((by kernel_rfl:Dl 1 _=some [(0,(.row [(Ag th)] 26))]).trans ?_)
    ·rfl
    ·rfl
end Sv
end
section
open Go Go.RowKit
namespace Sv
attribute [local irreducible] SW SO Bn
set_option maxHeartbeats 2000000
set_option maxRecDepth 100000
theorem Qpv:Au Tryz.prog 23:=Ay Tryz.func23 (by kernel_rfl) rfl
noncomputable def B1 (x:Ck):AV:=.agg [.int .i64 x.1,.bool x.2.1,.int .i64 x.2.2.kind,.str x.2.2.name,.int .i64 x.2.2.op,.str x.2.2.evr,.row 5 x.2.2.args.length (depAt x.2.2.args)]
theorem Xzv {p:PkgT} {n:Nat} (h:p.size≤n):p.pre.length≤n∧p.requires.length≤n∧(∀i,i < p.pre.length→(nth p.pre i).size≤n)∧∀i,i < p.requires.length→(nth p.requires i).size≤n:=by
 have hz:=p.sizes
 have h1:=D2 p.pre
 have h2:=D2 p.requires
 unfold PkgT.depSize at hz
 refine⟨by omega,by omega,fun i hi=>?_,fun i hi=>?_⟩
 ·have h2:=K7 (l:=p.pre) (i:=i) hi
  omega
 ·have h2:=K7 (l:=p.requires) (i:=i) hi
  omega
theorem Q3h {k:List Ck} {l:List DepT} {n:Int} {p:Bool} {i:Nat} (h:i < l.length):(k++(l.take (i+1)).map (fun d=>(n,p,d))).map B1=(k++(l.take i).map (fun d=>(n,p,d))).map B1++[B1 (n,p,nth l i)]:=by
 have e:k++(l.take (i+1)).map (fun d=>(n,p,d))=(k++(l.take i).map (fun d=>(n,p,d)))++[(n,p,nth l i)]:=by rw[Gg h,List.map_append,←List.append_assoc];rfl
 rw[e,List.map_append];rfl
theorem X5nv {k:List Ck} {l l2:List DepT} {n:Int} {i:Nat} (h:i=l.length):(k++l.map (fun d=>(n,true,d)))++(l2.take 0).map (fun d=>(n,false,d))=k++(l.take i).map (fun d=>(n,true,d)):=by
 subst h;rw[List.take_zero,List.map_nil,List.append_nil,List.take_length]
theorem X5o {k : List Ck} {m : Ez} {st : PoolT} {th : List Int} {v p : Int} {i : Nat} (h : i = (A0 m st th v (Bu st v)).length) :
  k++Dm m st th v p=(k++(A0 m st th v (Bl st v)).map (fun d=>(p,true,d)))++((A0 m st th v (Bu st v)).take i).map (fun d=>(p,false,d)):=by
 subst h;rw[List.take_length,List.append_assoc];rfl
theorem Q8t {o q:List Bc} {v:Int} {i:Nat} (h:i=q.length):o++Dk q v=(o++q.filter (ofB v))++(q.take i).filter (Cu v):=by
 subst h;rw[List.take_length,List.append_assoc];rfl
theorem X2jv {o q:List Bc} {p r:Bc→Bool} {i:Nat} (h:i=q.length):(o++q.filter p)++(q.take 0).filter r=o++(q.take i).filter p:=by
 subst h;rw[List.take_zero,List.filter_nil,List.append_nil,List.take_length]
theorem T3v {o q:List Bc} {p:Bc→Bool} {i:Nat} (h:i < q.length) (hp:p (nth q i)=true):o++(q.take (i+1)).filter p=(o++(q.take i).filter p)++[nth q i]:=by
 rw[Gg h,List.filter_append,List.append_assoc];simp[hp]
theorem T5 {o q:List Bc} {p:Bc→Bool} {i:Nat} (h:i < q.length) (hp:p (nth q i)=false):o++(q.take (i+1)).filter p=o++(q.take i).filter p:=by
 rw[Gg h,List.filter_append];simp[hp]
section
variable {m : Ez} {st : PoolT} {th c : List Int} {i : Nat} {bv : Int} {hf : Bool}
theorem S8v (h:i < c.length):c.drop i=nth c i::c.drop (i+1):=by rw[El h];exact List.drop_eq_getElem_cons h
theorem Q9s (h:i < c.length) (hp:0 < (A0 m st th (nth c i) (Bl st (nth c i))).length):Dj m st th (c.drop i) bv hf=Dj m st th (c.drop (i+1)) bv hf:=by rw[S8v h,Dj,if_pos hp]
theorem Zcv (h:i < c.length) (hp:¬0 < (A0 m st th (nth c i) (Bl st (nth c i))).length) (hr:(A0 m st th (nth c i) (Bu st (nth c i))).length=0):Dj m st th (c.drop i) bv hf=nth c i:=by rw[S8v h,Dj,if_neg hp,if_pos hr]
theorem Zhv (h:i < c.length) (hp:¬0 < (A0 m st th (nth c i) (Bl st (nth c i))).length) (hr:¬(A0 m st th (nth c i) (Bu st (nth c i))).length=0):Dj m st th (c.drop i) bv hf=Dj m st th (c.drop (i+1)) (if hf=true then bv else nth c i) true:=by rw[S8v h,Dj,if_neg hp,if_neg hr]
theorem Zi (h:c.length≤i):Dj m st th (c.drop i) bv hf=bv:=by rw[List.drop_of_length_le h];rfl
end
theorem Q8u {st:PoolT} {fr tw:List Int} {o:List Bc} {k:List Ck} (h:(Al Ab st fr tw).2=0) (hF:(o,k)=Dd Ab st (Al Ab st fr tw).1 fr (Ae tw fr).length (Ae tw fr) [] []):C7 Ab st fr tw=(o++(Al Ab st fr tw).1.filter Cr,k,0):=by
 unfold C7
 rw[if_neg (by simp[h]),←hF]
theorem Hh {st:PoolT} (hi:IdxOk st) {id:Int} (h:0≤id∧id < st.all.length):(Bl st id).length≤4194304∧∀i,i < (Bl st id).length→(nth (Bl st id) i).size≤4194304:=by
 have k:=Xzv (hi.2 id.toNat (by omega));exact⟨k.1,k.2.2.1⟩
theorem Iq {st:PoolT} (hi:IdxOk st) {id:Int} (h:0≤id∧id < st.all.length):(Bu st id).length≤4194304∧∀i,i < (Bu st id).length→(nth (Bu st id) i).size≤4194304:=by
 have k:=Xzv (hi.2 id.toNat (by omega));exact⟨k.2.1,k.2.2.2⟩
theorem Vjv (o q:List Bc) (i:Nat) (p:Bc→Bool):(o++(q.take i).filter p).length≤o.length+q.length:=by
 have h1:=List.length_filter_le p (q.take i)
 have h2:=List.length_take_le i q
 have h3:(q.take i).length≤q.length:=by rw[List.length_take];omega
 rw[List.length_append];omega
theorem X59v (o q:List Bc) (p:Bc→Bool):(o++q.filter p).length≤o.length+q.length:=by
 have h1:=List.length_filter_le p q
 rw[List.length_append];omega
theorem Q6av {st:PoolT} {a b:List Int} (h:(Al Ab st a b).2=0):(∀x∈a,0≤x∧x < st.all.length)∧∀x∈b,0≤x∧x < st.all.length:=by
 unfold Al at h
 split at h
 ·cases h
 ·rename_i q
  exact⟨Q7 fun e=>q (.inl e),Q7 fun e=>q (.inr e)⟩
theorem Wqv {st:PoolT} (hi:IdxOk st) {a b:List Int} (ha:∀x∈a,0≤x∧x < st.all.length) (hb:∀x∈b,0≤x∧x < st.all.length):(Al Ab st a b).1.length≤200:=by
 rw[Jg ha hb]
 show(Cm (Bs Ab st) a b).length≤200
 rw[Q59]
 refine Nat.le_trans (Sfv (M2 _ _) fun x hx=>?_) hi.1
 rcases unionZ_mem.1 hx with q|q
 ·exact hb x (minusZ_mem.1 q).1
 ·exact ha x (minusZ_mem.1 q).1
theorem Rjv (st : PoolT) (hi : IdxOk st) (fr tw : List Int) (ha : fr.length ≤ 1048576) (hb : tw.length ≤ 1048576) :
  FnV Tryz.prog 23 [(.fp (Bm st)),(Ag fr),(Ag tw)] (.tup [Ac 3 A3 (C7 Ab st fr tw).1,Ac 7 B1 (C7 Ab st fr tw).2.1,.int .i64 (C7 Ab st fr tw).2.2]):=by
 refine A5 [.tmp 6,.tmp 7,.tmp 8] Tryz.func23 rfl Tryz.ntmps23 rfl rfl (fun B F hF=>?_)
 refine Aa [] [0,1,2] ?_
 refine Vp 0 rfl (fun _ _=>False) [] 0 (by omega) (fun _=>?_) (fun _ _ h=>h.elim)
 refine Af [] [0,1,2,9,10] [] (hk 3 X3e (X7c st hi fr tw (by omega) (by omega))<|hk0) v0 c0 ?_
 refine Ad ?_
 refine Aa [] [0,1,2,9,10,46] ?_
 refine Dt (p:=((Al Ab st fr tw).2)=0) (by kernel_rfl) (fun c1=>?_) (fun c1=>?_)
 ·refine Aa [] [6,7,8] ?_
  refine Ah ?_
  refine RK wR [.nils,.nils,(.int .i64 ((Al Ab st fr tw).2))] ?_
  rw[show C7 Ab st fr tw=([],[],(Al Ab st fr tw).2) from by unfold C7;rw[if_pos c1]]
  simp only[An]
  exact(Imp.tups (ImpL.cons (Imp.nil (f:=A3)) (ImpL.cons (Imp.nil (f:=B1)) (ImpL.cons Imp.refl ImpL.nil)))).same
 ·have hk:=Q6av (st:=st) (a:=fr) (b:=tw) c1
  obtain⟨hra,hrb⟩:=hk
  have hq:=Jg (m:=Ab) hra hrb
  have hcb:∀x∈Ae tw fr,0≤x∧x < st.all.length:=fun x hx=>hrb x (minusZ_mem.1 hx).1
  have hcl:(Ae tw fr).length≤200:=Nat.le_trans (Sfv (Fm _ _) hcb) hi.1
  have hql:(Al Ab st fr tw).1.length≤200:=Wqv hi hra hrb
  refine Ai ?_
  refine Af [] [0,1,2,9,11] [] (hk 1 Ut (Sr st hi.1 hi.2)<|hk0) v0 c0 ?_
  refine Af [] [0,1,2,9,11,12] [] (hk 1 Qo (Qc fr (by omega))<|hk0) v0 c0 ?_
  refine Aa [] [0,1,2,9,11,12,13] ?_
  refine Aa [] [0,1,2,9,11,12,13,14] ?_
  refine Aa [] [0,1,2,9,11,12,13,14,15] ?_
  refine Af [] [0,1,2,9,13,14,15,16] [(0,11)] hk0 v0 c0 ?_
  refine Af [] [0,9,13,14,15,16,17] [] (hk 2 N7 (N1 tw fr (by omega) (by first|omega|simp))<|hk0) v0 c0 ?_
  refine Ad ?_
  refine Vq ?_
  refine Ad ?_
  refine A1 ?_
  refine Mu 79 7 14 (y:=⟨[(0,(.fp (Bm st))),(9,(Ac 3 A3 ((Al Ab st fr tw).1))),(13,(.ptr 2 0)),(14,(.own 3)),(15,(.fn 67 [] [(.ptr 2 0),(.ptr 1 0)])),(16,(.fn 68 [] [(.ptr 1 0),(.fp (.agg [(.fp (A4 st))]))])),(17,(Ag (Ae tw fr)))],[(1,(.row [(Ag (Ce fr))] 26)),(2,(.row [.nils] 53)),(3,(.grow [] 79 7))],4⟩) (by kernel_rfl) (by kernel_rfl) ?_
  refine Mt 66 3 2 0 (y:=⟨[(0,(.fp (Bm st))),(9,(Ac 3 A3 ((Al Ab st fr tw).1))),(13,(.ptr 2 0)),(14,(.own 3)),(15,(.fn 67 [] [(.ptr 2 0),(.ptr 1 0)])),(16,(.fn 68 [] [(.ptr 1 0),(.fp (.agg [(.fp (A4 st))]))])),(17,(Ag (Ae tw fr)))],[(1,(.row [(Ag (Ce fr))] 26)),(2,(.row [(.own 4)] 53)),(3,(.grow [] 79 7)),(4,(.grow [] 66 3))],5⟩) (by kernel_rfl) (by kernel_rfl) ?_
  refine Bz (fun g y=>∃(n:Nat) (c:List Int) (o:List Bc) (k:List Ck),c.length≤n∧Cq c∧(∀x∈c,0≤x∧x < st.all.length)∧o.length+400*c.length≤80000∧k.length+8388608*c.length≤1677721600∧Dd Ab st (Al Ab st fr tw).1 fr n c o k=Dd Ab st (Al Ab st fr tw).1 fr (Ae tw fr).length (Ae tw fr) [] []∧y=⟨[(0,(.fp (Bm st))),(9,(Ac 3 A3 ((Al Ab st fr tw).1))),(13,(.ptr 2 0)),(14,(.own 3)),(15,(.fn 67 [] [(.ptr 2 0),(.ptr 1 0)])),(16,(.fn 68 [] [(.ptr 1 0),(.fp (.agg [(.fp (A4 st))]))])),(17,(Ag c))],[(1,(.row [(Ag (Aj fr o))] 26)),(2,(.row [(.own 4)] 53)),(3,(.grow (k.map B1) 79 7)),(4,(.grow (o.map A3) 66 3))],5⟩∧g=c.length) [0,9,13,14,15,16,17] 5 _ (by omega) ⟨(Ae tw fr).length,(Ae tw fr),[],[],(by omega),(by exact Fm _ _),(by exact hcb),(by simp;omega),(by simp;omega),(by rfl),(by kernel_rfl),rfl⟩ ?_
  rintro g1 y1 ⟨n,c,o,k,hcn,hcr,hci,hol,hkl,hoF,rfl,rfl⟩
  have hml:(o.map A3).length=o.length:=List.length_map _
  have hmk:(k.map B1).length=k.length:=List.length_map _
  have htl:=Q6 fr o
  refine Ad ?_
  refine Aa [] [0,9,13,14,15,16,17,59] ?_
  refine A6 (p:=0 < (c.length:Int)) (by kernel_rfl) (fun c2=>?_) (fun c2=>?_)
  ·have hcne:¬c=[]:=by intro q;subst q;simp at c2
   refine Ai ?_
   refine A1 ?_
   refine Af [] [0,9,13,14,15,16,17,18,19] [] hk0 v0 (cc 1 (p:=(0≤(0:Int)∧0 < c.length)) (by first|omega|(simp;omega)|(simp;done)|(intros;simp_all;omega)|(intros;simp_all;done))<|c0) ?_
   refine D0 (fun y=>∃(v:Int),v=Dr Ab st (Aj fr o) c∧y=⟨[(0,(.fp (Bm st))),(9,(Ac 3 A3 ((Al Ab st fr tw).1))),(13,(.ptr 2 0)),(14,(.own 3)),(15,(.fn 67 [] [(.ptr 2 0),(.ptr 1 0)])),(16,(.fn 68 [] [(.ptr 1 0),(.fp (.agg [(.fp (A4 st))]))])),(17,(Ag c)),(18,(.int .i64 v))],[(1,(.row [(Ag (Aj fr o))] 26)),(2,(.row [(.own 4)] 53)),(3,(.grow (k.map B1) 79 7)),(4,(.grow (o.map A3) 66 3))],5⟩) [0,9,13,14,15,16,17,18] 5 (by omega) ?_ ?_
   ·refine Aa [] [0,9,13,14,15,16,17,18,19,63,64,65] ?_
    refine A1 ?_
    refine Bz (fun g y=>∃(i:Nat) (bv:Int) (hf:Bool),i≤c.length∧bv∈c∧Dj Ab st (Aj fr o) (c.drop i) bv hf=Dr Ab st (Aj fr o) c∧y=⟨[(0,(.fp (Bm st))),(9,(Ac 3 A3 ((Al Ab st fr tw).1))),(13,(.ptr 2 0)),(14,(.own 3)),(15,(.fn 67 [] [(.ptr 2 0),(.ptr 1 0)])),(16,(.fn 68 [] [(.ptr 1 0),(.fp (.agg [(.fp (A4 st))]))])),(17,(Ag c)),(18,(.int .i64 bv)),(19,(.bool hf)),(63,(Ag c)),(64,(.int .i64 ((c.length:Int)))),(65,(.int .i64 ((i:Int))))],[(1,(.row [(Ag (Aj fr o))] 26)),(2,(.row [(.own 4)] 53)),(3,(.grow (k.map B1) 79 7)),(4,(.grow (o.map A3) 66 3))],5⟩∧g=c.length-i) [0,9,13,14,15,16,17,18,19,63,64,65] 5 _ (by omega) ⟨0,(nth c 0),false,(by omega),(by exact Nr (by omega)),(by rfl),(by kernel_rfl),rfl⟩ ?_
    rintro g2 y2 ⟨i,bv,hf,hil,hbc,hnf,rfl,rfl⟩
    refine Aa [] [0,9,13,14,15,16,17,18,19,63,64,65,66] ?_
    refine Ad ?_
    refine A6 (p:=(i:Int) < (c.length:Int)) (by kernel_rfl) (fun c3=>?_) (fun c3=>?_)
    ·have hni:=hci _ (Nr (l:=c) (i:=i) (by omega))
     refine Ai ?_
     refine Ad ?_
     refine A1 ?_
     refine Af [] [0,9,13,14,15,16,17,18,19,21,63,64,65] [] hk0 v0 (cc 0 (p:=(0≤(i:Int)∧i < c.length)) (by first|omega|(simp;omega)|(simp;done)|(intros;simp_all;omega)|(intros;simp_all;done))<|c0) ?_
     refine Af [] [0,9,13,14,15,16,17,18,19,21,22,63,64,65] [(9,22)] (hk 2 (al:=[(.fp (Bm st)),(.int .i64 (nth c i))]) I3 ((Je st (nth c i).toNat (by omega) (hi.2 _ (by omega))).of_args (ImpL.cons Imp.refl (ImpL.cons (Imp.of_eq (congrArg (AV.int .i64) (L6 (by omega)))) ImpL.nil)))<|hk0) v0 c0 ?_
     refine Ad ?_
     refine Ad ?_
     refine Ap ?_
     refine Br 4 0 [] [0,9,13,14,15,16,17,18,19,21,22,63,64,65,76,77,79] [] hk0 v0 c0 ?_
     refine Ht [1] (f:=68) (cap:=[(.ptr 1 0),(.fp (.agg [(.fp (A4 st))]))]) (al:=[(.int .i64 (nth c i)),(Ac 5 Ak (((nth st.all ((nth c i).toNat)).1).pre))]) (al':=[(.int .i64 (nth c i)),(Ac 5 Ak (((nth st.all ((nth c i).toNat)).1).pre)),(.ptr 0 0),(.fp (.agg [(.fp (A4 st))]))]) (r:=(Ac 5 Ak (A0 Ab st (Aj fr o) (nth c i) (Bl st (nth c i))))) (r':=(Ac 5 Ak (A0 Ab st (Aj fr o) (nth c i) (Bl st (nth c i))))) (s':=[(0,(.fp (Bm st))),(9,(Ac 3 A3 ((Al Ab st fr tw).1))),(13,(.ptr 2 0)),(14,(.own 3)),(15,(.fn 67 [] [(.ptr 2 0),(.ptr 1 0)])),(16,(.fn 68 [] [(.ptr 1 0),(.fp (.agg [(.fp (A4 st))]))])),(17,(Ag c)),(18,(.int .i64 bv)),(19,(.bool hf)),(21,(.int .i64 (nth c i))),(22,(.fp (Ar ((nth st.all ((nth c i).toNat)).1)))),(63,(Ag c)),(64,(.int .i64 ((c.length:Int)))),(65,(.int .i64 ((i:Int)))),(76,(.fn 68 [] [(.ptr 1 0),(.fp (.agg [(.fp (A4 st))]))])),(77,(.int .i64 (nth c i))),(79,(Ac 5 Ak (((nth st.all ((nth c i).toNat)).1).pre))),(80,(Ac 5 Ak (A0 Ab st (Aj fr o) (nth c i) (Bl st (nth c i)))))]) (H:=[(0,(.row [(Ag (Aj fr o))] 26))]) (H':=[(0,(.row [(Ag (Aj fr o))] 26))]) (h2:=[(1,(.row [(Ag (Aj fr o))] 26)),(2,(.row [(.own 4)] 53)),(3,(.grow (k.map B1) 79 7)),(4,(.grow (o.map A3) 66 3))]) (by kernel_rfl) (by kernel_rfl) (by exact Qmv) (by kernel_rfl) (by kernel_rfl) (by kernel_rfl) (by kernel_rfl) (by kernel_rfl) (P4v st hi (Aj fr o) (by omega) (nth c i) (Bl st (nth c i)) (Hh hi hni).1 (Hh hi hni).2) (by kernel_rfl) (by kernel_rfl) (by kernel_rfl) ?_
     refine Av 5 [] [0,9,13,14,15,16,17,18,19,21,22,63,64,65,82] [] hk0 v0 c0 ?_
     refine A6 (p:=0 < ((A0 Ab st (Aj fr o) (nth c i) (Bl st (nth c i))).length:Int)) (by kernel_rfl) (fun c4=>?_) (fun c4=>?_)
     ·refine Bt ?_
      refine Ap ?_
      refine Av 0 [] [0,9,13,14,15,16,17,18,19,63,64,65] [] hk0 v0 (cc 0 (p:=(-9223372036854775808≤(i:Int)+1∧(i:Int)+1≤9223372036854775807)) (by first|omega|(simp;omega)|(simp;done)|(intros;simp_all;omega)|(intros;simp_all;done))<|c0) ?_
      refine⟨by kernel_rfl,_,?_,i+1,bv,hf,?_,?_,?_,(by kernel_rfl),rfl⟩
      ·omega
      ·omega
      ·assumption
      ·rw[←hnf];exact(Q9s (by omega) (by omega)).symm
     ·refine Ai ?_
      refine Ad ?_
      refine Ad ?_
      refine Ap ?_
      refine Br 4 0 [] [0,9,13,14,15,16,17,18,19,21,63,64,65,83,84,86] [] hk0 v0 c0 ?_
      refine Ht [1] (f:=68) (cap:=[(.ptr 1 0),(.fp (.agg [(.fp (A4 st))]))]) (al:=[(.int .i64 (nth c i)),(Ac 5 Ak (((nth st.all ((nth c i).toNat)).1).requires))]) (al':=[(.int .i64 (nth c i)),(Ac 5 Ak (((nth st.all ((nth c i).toNat)).1).requires)),(.ptr 0 0),(.fp (.agg [(.fp (A4 st))]))]) (r:=(Ac 5 Ak (A0 Ab st (Aj fr o) (nth c i) (Bu st (nth c i))))) (r':=(Ac 5 Ak (A0 Ab st (Aj fr o) (nth c i) (Bu st (nth c i))))) (s':=[(0,(.fp (Bm st))),(9,(Ac 3 A3 ((Al Ab st fr tw).1))),(13,(.ptr 2 0)),(14,(.own 3)),(15,(.fn 67 [] [(.ptr 2 0),(.ptr 1 0)])),(16,(.fn 68 [] [(.ptr 1 0),(.fp (.agg [(.fp (A4 st))]))])),(17,(Ag c)),(18,(.int .i64 bv)),(19,(.bool hf)),(21,(.int .i64 (nth c i))),(63,(Ag c)),(64,(.int .i64 ((c.length:Int)))),(65,(.int .i64 ((i:Int)))),(83,(.fn 68 [] [(.ptr 1 0),(.fp (.agg [(.fp (A4 st))]))])),(84,(.int .i64 (nth c i))),(86,(Ac 5 Ak (((nth st.all ((nth c i).toNat)).1).requires))),(87,(Ac 5 Ak (A0 Ab st (Aj fr o) (nth c i) (Bu st (nth c i)))))]) (H:=[(0,(.row [(Ag (Aj fr o))] 26))]) (H':=[(0,(.row [(Ag (Aj fr o))] 26))]) (h2:=[(1,(.row [(Ag (Aj fr o))] 26)),(2,(.row [(.own 4)] 53)),(3,(.grow (k.map B1) 79 7)),(4,(.grow (o.map A3) 66 3))]) (by kernel_rfl) (by kernel_rfl) (by exact Qmv) (by kernel_rfl) (by kernel_rfl) (by kernel_rfl) (by kernel_rfl) (by kernel_rfl) (P4v st hi (Aj fr o) (by omega) (nth c i) (Bu st (nth c i)) (Iq hi hni).1 (Iq hi hni).2) (by kernel_rfl) (by kernel_rfl) (by kernel_rfl) ?_
      refine Av 5 [] [0,9,13,14,15,16,17,18,19,21,63,64,65,89] [] hk0 v0 c0 ?_
      refine A6 (p:=((A0 Ab st (Aj fr o) (nth c i) (Bu st (nth c i))).length:Int)=0) (by kernel_rfl) (fun c5=>?_) (fun c5=>?_)
      ·refine Aa [] [0,9,13,14,15,16,17,18] ?_
       refine Bt ?_
       refine⟨by kernel_rfl,(nth c i),?_,(by kernel_rfl)⟩
       first|(rw[←hnf];exact(Zi (by omega)).symm)|(rw[←hnf];exact(Zcv (by omega) (by omega) (by omega)).symm)
      ·refine Ai ?_
       refine Aa [] [0,9,13,14,15,16,17,18,19,21,63,64,65,92] ?_
       refine A8 (q:=!hf) (by kernel_rfl) (fun c6=>?_) (fun c6=>?_)
       ·try simp only[Ao] at c6
        refine Ap ?_
        refine Ey [] [0,9,13,14,15,16,17,18,19,63,64,65] ?_
        refine Ap ?_
        refine Av 0 [] [0,9,13,14,15,16,17,18,19,63,64,65] [] hk0 v0 (cc 0 (p:=(-9223372036854775808≤(i:Int)+1∧(i:Int)+1≤9223372036854775807)) (by first|omega|(simp;omega)|(simp;done)|(intros;simp_all;omega)|(intros;simp_all;done))<|c0) ?_
        refine⟨by kernel_rfl,_,?_,i+1,(nth c i),true,?_,?_,?_,(by kernel_rfl),rfl⟩
        ·omega
        ·omega
        ·exact Nr (by omega)
        ·rw[←hnf,Zhv (i:=i) (bv:=bv) (hf:=hf) (by omega) (by omega) (by omega),c6];rfl
       ·try simp only[Ao] at c6
        refine Ai ?_
        refine Ap ?_
        refine Av 0 [] [0,9,13,14,15,16,17,18,19,63,64,65] [] hk0 v0 (cc 0 (p:=(-9223372036854775808≤(i:Int)+1∧(i:Int)+1≤9223372036854775807)) (by first|omega|(simp;omega)|(simp;done)|(intros;simp_all;omega)|(intros;simp_all;done))<|c0) ?_
        refine⟨by kernel_rfl,_,?_,i+1,bv,hf,?_,?_,?_,(by kernel_rfl),rfl⟩
        ·omega
        ·omega
        ·assumption
        ·rw[←hnf,Zhv (i:=i) (bv:=bv) (hf:=hf) (by omega) (by omega) (by omega),c6];rfl
    ·refine Bt ?_
     refine⟨by kernel_rfl,bv,?_,(by kernel_rfl)⟩
     first|(rw[←hnf];exact(Zi (by omega)).symm)|(rw[←hnf];exact(Zcv (by omega) (by omega) (by omega)).symm)
   ·rintro y1 ⟨v,hv,rfl⟩
    have hvc:v∈c:=by rw[hv];exact L1v hcne
    have hvi:=hci v hvc
    have hn1:=(Hh hi hvi).1
    have hn2:=(Iq hi hvi).1
    have hl1:=P5 Ab st (Aj fr o) v (Bl st v)
    have hl2:=P5 Ab st (Aj fr o) v (Bu st v)
    refine Af [] [0,9,13,14,15,16,17,18,25] [(9,25)] (hk 2 (al:=[(.fp (Bm st)),(.int .i64 v)]) I3 ((Je st v.toNat (by omega) (hi.2 _ (by omega))).of_args (ImpL.cons Imp.refl (ImpL.cons (Imp.of_eq (congrArg (AV.int .i64) (L6 (by omega)))) ImpL.nil)))<|hk0) v0 c0 ?_
    refine Ad ?_
    refine Ad ?_
    refine Ap ?_
    refine Br 4 0 [] [0,9,13,14,15,16,17,18,25,102,103,105] [] hk0 v0 c0 ?_
    refine Ht [1] (f:=68) (cap:=[(.ptr 1 0),(.fp (.agg [(.fp (A4 st))]))]) (al:=[(.int .i64 v),(Ac 5 Ak (((nth st.all v.toNat).1).pre))]) (al':=[(.int .i64 v),(Ac 5 Ak (((nth st.all v.toNat).1).pre)),(.ptr 0 0),(.fp (.agg [(.fp (A4 st))]))]) (r:=(Ac 5 Ak (A0 Ab st (Aj fr o) v (Bl st v)))) (r':=(Ac 5 Ak (A0 Ab st (Aj fr o) v (Bl st v)))) (s':=[(0,(.fp (Bm st))),(9,(Ac 3 A3 ((Al Ab st fr tw).1))),(13,(.ptr 2 0)),(14,(.own 3)),(15,(.fn 67 [] [(.ptr 2 0),(.ptr 1 0)])),(16,(.fn 68 [] [(.ptr 1 0),(.fp (.agg [(.fp (A4 st))]))])),(17,(Ag c)),(18,(.int .i64 v)),(25,(.fp (Ar ((nth st.all v.toNat).1)))),(102,(.fn 68 [] [(.ptr 1 0),(.fp (.agg [(.fp (A4 st))]))])),(103,(.int .i64 v)),(105,(Ac 5 Ak (((nth st.all v.toNat).1).pre))),(106,(Ac 5 Ak (A0 Ab st (Aj fr o) v (Bl st v))))]) (H:=[(0,(.row [(Ag (Aj fr o))] 26))]) (H':=[(0,(.row [(Ag (Aj fr o))] 26))]) (h2:=[(1,(.row [(Ag (Aj fr o))] 26)),(2,(.row [(.own 4)] 53)),(3,(.grow (k.map B1) 79 7)),(4,(.grow (o.map A3) 66 3))]) (by kernel_rfl) (by kernel_rfl) (by exact Qmv) (by kernel_rfl) (by kernel_rfl) (by kernel_rfl) (by kernel_rfl) (by kernel_rfl) (P4v st hi (Aj fr o) (by omega) v (Bl st v) (Hh hi hvi).1 (Hh hi hvi).2) (by kernel_rfl) (by kernel_rfl) (by kernel_rfl) ?_
    refine Av 5 [] [0,9,13,14,15,16,17,18,25,106,107,108] [] hk0 v0 c0 ?_
    refine A1 ?_
    refine Bz (fun g y=>∃(i3:Nat),i3≤(A0 Ab st (Aj fr o) v (Bl st v)).length∧y=⟨[(0,(.fp (Bm st))),(9,(Ac 3 A3 ((Al Ab st fr tw).1))),(13,(.ptr 2 0)),(14,(.own 3)),(15,(.fn 67 [] [(.ptr 2 0),(.ptr 1 0)])),(16,(.fn 68 [] [(.ptr 1 0),(.fp (.agg [(.fp (A4 st))]))])),(17,(Ag c)),(18,(.int .i64 v)),(25,(.fp (Ar ((nth st.all v.toNat).1)))),(106,(Ac 5 Ak (A0 Ab st (Aj fr o) v (Bl st v)))),(107,(.int .i64 (((A0 Ab st (Aj fr o) v (Bl st v)).length:Int)))),(108,(.int .i64 ((i3:Int))))],[(1,(.row [(Ag (Aj fr o))] 26)),(2,(.row [(.own 4)] 53)),(3,(.grow ((k++((A0 Ab st (Aj fr o) v (Bl st v)).take i3).map (fun d=>((o.length:Int),true,d))).map B1) 79 7)),(4,(.grow (o.map A3) 66 3))],6⟩∧g=(A0 Ab st (Aj fr o) v (Bl st v)).length-i3) [0,9,13,14,15,16,17,18,25,106,107,108] 6 _ (by omega) ⟨0,(by omega),(Eq.trans (b:=(⟨[(0,(.fp (Bm st))),(9,(Ac 3 A3 ((Al Ab st fr tw).1))),(13,(.ptr 2 0)),(14,(.own 3)),(15,(.fn 67 [] [(.ptr 2 0),(.ptr 1 0)])),(16,(.fn 68 [] [(.ptr 1 0),(.fp (.agg [(.fp (A4 st))]))])),(17,(Ag c)),(18,(.int .i64 v)),(25,(.fp (Ar ((nth st.all v.toNat).1)))),(106,(Ac 5 Ak (A0 Ab st (Aj fr o) v (Bl st v)))),(107,(.int .i64 (((A0 Ab st (Aj fr o) v (Bl st v)).length:Int)))),(108,(.int .i64 0))],[(1,(.row [(Ag (Aj fr o))] 26)),(2,(.row [(.own 4)] 53)),(3,(.grow (k.map B1) 79 7)),(4,(.grow (o.map A3) 66 3))],6⟩:St)) (by kernel_rfl) (by rw[show(k++((A0 Ab st (Aj fr o) v (Bl st v)).take 0).map (fun d=>((o.length:Int),true,d))).map B1=k.map B1 from by rw[List.take_zero,List.map_nil,List.append_nil]]<;>kernel_rfl)),rfl⟩ ?_
    rintro g3 y3 ⟨i3,f3_1,rfl,rfl⟩
    refine Aa [] [0,9,13,14,15,16,17,18,25,106,107,108,109] ?_
    refine Ad ?_
    refine A6 (p:=(i3:Int) < ((A0 Ab st (Aj fr o) v (Bl st v)).length:Int)) (by kernel_rfl) (fun c7=>?_) (fun c7=>?_)
    ·refine Ai ?_
     refine Ad ?_
     refine A1 ?_
     refine Af [] [0,9,13,14,15,16,17,18,25,29,106,107,108] [] hk0 v0 (cc 0 (p:=(0≤(i3:Int)∧i3 < (A0 Ab st (Aj fr o) v (Bl st v)).length)) (by first|omega|(simp;omega)|(simp;done)|(intros;simp_all;omega)|(intros;simp_all;done))<|c0) ?_
     refine Ap ?_
     refine Av 0 [] [0,9,13,14,15,16,17,18,25,106,107,108] [(0,29)] hk0 v0 (cc 6 (p:=((((k++((A0 Ab st (Aj fr o) v (Bl st v)).take i3).map (fun d=>((o.length:Int),true,d))).map B1).length+1)*88≤140737488355328)) (by first|omega|(simp;omega)|(simp;done)|(intros;simp_all;omega)|(intros;simp_all;done))<|c0) ?_
     refine Ap ?_
     refine Av 0 [] [0,9,13,14,15,16,17,18,25,106,107,108] [] hk0 v0 (cc 0 (p:=(-9223372036854775808≤(i3:Int)+1∧(i3:Int)+1≤9223372036854775807)) (by first|omega|(simp;omega)|(simp;done)|(intros;simp_all;omega)|(intros;simp_all;done))<|c0) ?_
     refine⟨by kernel_rfl,_,?_,i3+1,?_,(Eq.trans (b:=(⟨[(0,(.fp (Bm st))),(9,(Ac 3 A3 ((Al Ab st fr tw).1))),(13,(.ptr 2 0)),(14,(.own 3)),(15,(.fn 67 [] [(.ptr 2 0),(.ptr 1 0)])),(16,(.fn 68 [] [(.ptr 1 0),(.fp (.agg [(.fp (A4 st))]))])),(17,(Ag c)),(18,(.int .i64 v)),(25,(.fp (Ar ((nth st.all v.toNat).1)))),(106,(Ac 5 Ak (A0 Ab st (Aj fr o) v (Bl st v)))),(107,(.int .i64 (((A0 Ab st (Aj fr o) v (Bl st v)).length:Int)))),(108,(.int .i64 ((i3:Int)+1)))],[(1,(.row [(Ag (Aj fr o))] 26)),(2,(.row [(.own 4)] 53)),(3,(.grow (((k++((A0 Ab st (Aj fr o) v (Bl st v)).take i3).map (fun d=>((o.length:Int),true,d))).map B1)++([(.agg [(.int .i64 (((o.map A3).length:Int))),(.bool true),(.int .i64 ((nth (A0 Ab st (Aj fr o) v (Bl st v)) i3).kind)),(.str ((nth (A0 Ab st (Aj fr o) v (Bl st v)) i3).name)),(.int .i64 ((nth (A0 Ab st (Aj fr o) v (Bl st v)) i3).op)),(.str ((nth (A0 Ab st (Aj fr o) v (Bl st v)) i3).evr)),(.row 5 (nth (A0 Ab st (Aj fr o) v (Bl st v)) i3).args.length (depAt (nth (A0 Ab st (Aj fr o) v (Bl st v)) i3).args))])]:List AV)) 79 7)),(4,(.grow (o.map A3) 66 3))],6⟩:St)) (by kernel_rfl) (by rw[Q3h (k:=k) (l:=(A0 Ab st (Aj fr o) v (Bl st v))) (n:=(o.length:Int)) (p:=true) (i:=i3) (by omega),hml]<;>kernel_rfl)),rfl⟩
     ·omega
     ·omega
    ·refine Bt ?_
     refine Ad ?_
     refine Ad ?_
     refine Ap ?_
     refine Br 4 0 [] [0,9,13,14,15,16,17,18,120,121,123] [] hk0 v0 c0 ?_
     refine Ht [1] (f:=68) (cap:=[(.ptr 1 0),(.fp (.agg [(.fp (A4 st))]))]) (al:=[(.int .i64 v),(Ac 5 Ak (((nth st.all v.toNat).1).requires))]) (al':=[(.int .i64 v),(Ac 5 Ak (((nth st.all v.toNat).1).requires)),(.ptr 0 0),(.fp (.agg [(.fp (A4 st))]))]) (r:=(Ac 5 Ak (A0 Ab st (Aj fr o) v (Bu st v)))) (r':=(Ac 5 Ak (A0 Ab st (Aj fr o) v (Bu st v)))) (s':=[(0,(.fp (Bm st))),(9,(Ac 3 A3 ((Al Ab st fr tw).1))),(13,(.ptr 2 0)),(14,(.own 3)),(15,(.fn 67 [] [(.ptr 2 0),(.ptr 1 0)])),(16,(.fn 68 [] [(.ptr 1 0),(.fp (.agg [(.fp (A4 st))]))])),(17,(Ag c)),(18,(.int .i64 v)),(120,(.fn 68 [] [(.ptr 1 0),(.fp (.agg [(.fp (A4 st))]))])),(121,(.int .i64 v)),(123,(Ac 5 Ak (((nth st.all v.toNat).1).requires))),(124,(Ac 5 Ak (A0 Ab st (Aj fr o) v (Bu st v))))]) (H:=[(0,(.row [(Ag (Aj fr o))] 26))]) (H':=[(0,(.row [(Ag (Aj fr o))] 26))]) (h2:=[(1,(.row [(Ag (Aj fr o))] 26)),(2,(.row [(.own 4)] 53)),(3,(.grow ((k++((A0 Ab st (Aj fr o) v (Bl st v)).take i3).map (fun d=>((o.length:Int),true,d))).map B1) 79 7)),(4,(.grow (o.map A3) 66 3))]) (by kernel_rfl) (by kernel_rfl) (by exact Qmv) (by kernel_rfl) (by kernel_rfl) (by kernel_rfl) (by kernel_rfl) (by kernel_rfl) (P4v st hi (Aj fr o) (by omega) v (Bu st v) (Iq hi hvi).1 (Iq hi hvi).2) (by kernel_rfl) (by kernel_rfl) (by kernel_rfl) ?_
     refine Av 5 [] [0,9,13,14,15,16,17,18,124,125,126] [] hk0 v0 c0 ?_
     refine A1 ?_
     refine Bz (fun g y=>∃(i4:Nat),i4≤(A0 Ab st (Aj fr o) v (Bu st v)).length∧y=⟨[(0,(.fp (Bm st))),(9,(Ac 3 A3 ((Al Ab st fr tw).1))),(13,(.ptr 2 0)),(14,(.own 3)),(15,(.fn 67 [] [(.ptr 2 0),(.ptr 1 0)])),(16,(.fn 68 [] [(.ptr 1 0),(.fp (.agg [(.fp (A4 st))]))])),(17,(Ag c)),(18,(.int .i64 v)),(124,(Ac 5 Ak (A0 Ab st (Aj fr o) v (Bu st v)))),(125,(.int .i64 (((A0 Ab st (Aj fr o) v (Bu st v)).length:Int)))),(126,(.int .i64 ((i4:Int))))],[(1,(.row [(Ag (Aj fr o))] 26)),(2,(.row [(.own 4)] 53)),(3,(.grow (((k++(A0 Ab st (Aj fr o) v (Bl st v)).map (fun d=>((o.length:Int),true,d)))++((A0 Ab st (Aj fr o) v (Bu st v)).take i4).map (fun d=>((o.length:Int),false,d))).map B1) 79 7)),(4,(.grow (o.map A3) 66 3))],6⟩∧g=(A0 Ab st (Aj fr o) v (Bu st v)).length-i4) [0,9,13,14,15,16,17,18,124,125,126] 6 _ (by omega) ⟨0,(by omega),(Eq.trans (b:=(⟨[(0,(.fp (Bm st))),(9,(Ac 3 A3 ((Al Ab st fr tw).1))),(13,(.ptr 2 0)),(14,(.own 3)),(15,(.fn 67 [] [(.ptr 2 0),(.ptr 1 0)])),(16,(.fn 68 [] [(.ptr 1 0),(.fp (.agg [(.fp (A4 st))]))])),(17,(Ag c)),(18,(.int .i64 v)),(124,(Ac 5 Ak (A0 Ab st (Aj fr o) v (Bu st v)))),(125,(.int .i64 (((A0 Ab st (Aj fr o) v (Bu st v)).length:Int)))),(126,(.int .i64 0))],[(1,(.row [(Ag (Aj fr o))] 26)),(2,(.row [(.own 4)] 53)),(3,(.grow ((k++((A0 Ab st (Aj fr o) v (Bl st v)).take i3).map (fun d=>((o.length:Int),true,d))).map B1) 79 7)),(4,(.grow (o.map A3) 66 3))],6⟩:St)) (by kernel_rfl) (by rw[X5nv (k:=k) (l:=(A0 Ab st (Aj fr o) v (Bl st v))) (l2:=(A0 Ab st (Aj fr o) v (Bu st v))) (n:=(o.length:Int)) (i:=i3) (by omega)]<;>kernel_rfl)),rfl⟩ ?_
     rintro g4 y4 ⟨i4,f4_1,rfl,rfl⟩
     refine Aa [] [0,9,13,14,15,16,17,18,124,125,126,127] ?_
     refine Ad ?_
     refine A6 (p:=(i4:Int) < ((A0 Ab st (Aj fr o) v (Bu st v)).length:Int)) (by kernel_rfl) (fun c8=>?_) (fun c8=>?_)
     ·refine Ai ?_
      refine Ad ?_
      refine A1 ?_
      refine Af [] [0,9,13,14,15,16,17,18,31,124,125,126] [] hk0 v0 (cc 0 (p:=(0≤(i4:Int)∧i4 < (A0 Ab st (Aj fr o) v (Bu st v)).length)) (by first|omega|(simp;omega)|(simp;done)|(intros;simp_all;omega)|(intros;simp_all;done))<|c0) ?_
      refine Ap ?_
      refine Av 0 [] [0,9,13,14,15,16,17,18,124,125,126] [(0,31)] hk0 v0 (cc 6 (p:=(((((k++(A0 Ab st (Aj fr o) v (Bl st v)).map (fun d=>((o.length:Int),true,d)))++((A0 Ab st (Aj fr o) v (Bu st v)).take i4).map (fun d=>((o.length:Int),false,d))).map B1).length+1)*88≤140737488355328)) (by first|omega|(simp;omega)|(simp;done)|(intros;simp_all;omega)|(intros;simp_all;done))<|c0) ?_
      refine Ap ?_
      refine Av 0 [] [0,9,13,14,15,16,17,18,124,125,126] [] hk0 v0 (cc 0 (p:=(-9223372036854775808≤(i4:Int)+1∧(i4:Int)+1≤9223372036854775807)) (by first|omega|(simp;omega)|(simp;done)|(intros;simp_all;omega)|(intros;simp_all;done))<|c0) ?_
      refine⟨by kernel_rfl,_,?_,i4+1,?_,(Eq.trans (b:=(⟨[(0,(.fp (Bm st))),(9,(Ac 3 A3 ((Al Ab st fr tw).1))),(13,(.ptr 2 0)),(14,(.own 3)),(15,(.fn 67 [] [(.ptr 2 0),(.ptr 1 0)])),(16,(.fn 68 [] [(.ptr 1 0),(.fp (.agg [(.fp (A4 st))]))])),(17,(Ag c)),(18,(.int .i64 v)),(124,(Ac 5 Ak (A0 Ab st (Aj fr o) v (Bu st v)))),(125,(.int .i64 (((A0 Ab st (Aj fr o) v (Bu st v)).length:Int)))),(126,(.int .i64 ((i4:Int)+1)))],[(1,(.row [(Ag (Aj fr o))] 26)),(2,(.row [(.own 4)] 53)),(3,(.grow ((((k++(A0 Ab st (Aj fr o) v (Bl st v)).map (fun d=>((o.length:Int),true,d)))++((A0 Ab st (Aj fr o) v (Bu st v)).take i4).map (fun d=>((o.length:Int),false,d))).map B1)++([(.agg [(.int .i64 (((o.map A3).length:Int))),(.bool false),(.int .i64 ((nth (A0 Ab st (Aj fr o) v (Bu st v)) i4).kind)),(.str ((nth (A0 Ab st (Aj fr o) v (Bu st v)) i4).name)),(.int .i64 ((nth (A0 Ab st (Aj fr o) v (Bu st v)) i4).op)),(.str ((nth (A0 Ab st (Aj fr o) v (Bu st v)) i4).evr)),(.row 5 (nth (A0 Ab st (Aj fr o) v (Bu st v)) i4).args.length (depAt (nth (A0 Ab st (Aj fr o) v (Bu st v)) i4).args))])]:List AV)) 79 7)),(4,(.grow (o.map A3) 66 3))],6⟩:St)) (by kernel_rfl) (by rw[Q3h (k:=k++(A0 Ab st (Aj fr o) v (Bl st v)).map (fun d=>((o.length:Int),true,d))) (l:=(A0 Ab st (Aj fr o) v (Bu st v))) (n:=(o.length:Int)) (p:=false) (i:=i4) (by omega),hml]<;>kernel_rfl)),rfl⟩
      ·omega
      ·omega
     ·refine Bt ?_
      refine Af [] [0,9,13,14,15,16,17,18] [(3,140)] (hk 3 N7 (N1 c [v] (by omega) (by first|omega|simp))<|hk0) (vk 3 140 (b:=(Ag [v])) (Imp.list (f:=AV.int .i64) rfl)<|v0) c0 ?_
      refine Ad ?_
      refine Aa [] [0,9,13,14,15,16,17,18,142,143,144] ?_
      refine A1 ?_
      refine Bz (fun g y=>∃(i5:Nat),i5≤(Al Ab st fr tw).1.length∧y=⟨[(0,(.fp (Bm st))),(9,(Ac 3 A3 ((Al Ab st fr tw).1))),(13,(.ptr 2 0)),(14,(.own 3)),(15,(.fn 67 [] [(.ptr 2 0),(.ptr 1 0)])),(16,(.fn 68 [] [(.ptr 1 0),(.fp (.agg [(.fp (A4 st))]))])),(17,(Ag (Ae c [v]))),(18,(.int .i64 v)),(142,(Ac 3 A3 ((Al Ab st fr tw).1))),(143,(.int .i64 ((((Al Ab st fr tw).1).length:Int)))),(144,(.int .i64 ((i5:Int))))],[(1,(.row [(Ag (Aj fr (o++((Al Ab st fr tw).1.take i5).filter (ofB v))))] 26)),(2,(.row [(.own 4)] 53)),(3,(.grow (((k++(A0 Ab st (Aj fr o) v (Bl st v)).map (fun d=>((o.length:Int),true,d)))++((A0 Ab st (Aj fr o) v (Bu st v)).take i4).map (fun d=>((o.length:Int),false,d))).map B1) 79 7)),(4,(.grow ((o++((Al Ab st fr tw).1.take i5).filter (ofB v)).map A3) 66 3))],7⟩∧g=(Al Ab st fr tw).1.length-i5) [0,9,13,14,15,16,17,18,142,143,144] 7 _ (by omega) ⟨0,(by omega),(Eq.trans (b:=(⟨[(0,(.fp (Bm st))),(9,(Ac 3 A3 ((Al Ab st fr tw).1))),(13,(.ptr 2 0)),(14,(.own 3)),(15,(.fn 67 [] [(.ptr 2 0),(.ptr 1 0)])),(16,(.fn 68 [] [(.ptr 1 0),(.fp (.agg [(.fp (A4 st))]))])),(17,(Ag (Ae c [v]))),(18,(.int .i64 v)),(142,(Ac 3 A3 ((Al Ab st fr tw).1))),(143,(.int .i64 ((((Al Ab st fr tw).1).length:Int)))),(144,(.int .i64 0))],[(1,(.row [(Ag (Aj fr o))] 26)),(2,(.row [(.own 4)] 53)),(3,(.grow (((k++(A0 Ab st (Aj fr o) v (Bl st v)).map (fun d=>((o.length:Int),true,d)))++((A0 Ab st (Aj fr o) v (Bu st v)).take i4).map (fun d=>((o.length:Int),false,d))).map B1) 79 7)),(4,(.grow (o.map A3) 66 3))],7⟩:St)) (by kernel_rfl) (by rw[show o++((Al Ab st fr tw).1.take 0).filter (ofB v)=o from by rw[List.take_zero,List.filter_nil,List.append_nil]]<;>kernel_rfl)),rfl⟩ ?_
      rintro g5 y5 ⟨i5,f5_1,rfl,rfl⟩
      refine Aa [] [0,9,13,14,15,16,17,18,142,143,144,145] ?_
      refine Ad ?_
      refine A6 (p:=(i5:Int) < (((Al Ab st fr tw).1).length:Int)) (by kernel_rfl) (fun c9=>?_) (fun c9=>?_)
      ·refine Ai ?_
       refine Ad ?_
       refine A1 ?_
       refine Af [] [0,9,13,14,15,16,17,18,33,142,143,144] [] hk0 v0 (cc 0 (p:=(0≤(i5:Int)∧i5 < ((Al Ab st fr tw).1).length)) (by first|omega|(simp;omega)|(simp;done)|(intros;simp_all;omega)|(intros;simp_all;done))<|c0) ?_
       refine Af [] [0,9,13,14,15,16,17,18,33,142,143,144,151] [(0,33)] hk0 v0 c0 ?_
       refine A6 (p:=((nth ((Al Ab st fr tw).1) i5).2.1)=v) (by kernel_rfl) (fun c10=>?_) (fun c10=>?_)
       ·refine Ap ?_
        refine Br 2 0 [] [0,9,13,14,15,16,17,18,142,143,144,152,153] [] hk0 v0 c0 ?_
        refine Ht [2,1,4] (f:=67) (cap:=[(.ptr 2 0),(.ptr 1 0)]) (al:=[(.agg [(.int .i64 ((nth ((Al Ab st fr tw).1) i5).1)),(.int .i64 ((nth ((Al Ab st fr tw).1) i5).2.1)),(.int .i64 ((nth ((Al Ab st fr tw).1) i5).2.2))])]) (al':=[(.agg [(.int .i64 ((nth ((Al Ab st fr tw).1) i5).1)),(.int .i64 ((nth ((Al Ab st fr tw).1) i5).2.1)),(.int .i64 ((nth ((Al Ab st fr tw).1) i5).2.2))]),(.ptr 0 0),(.ptr 1 0)]) (r:=(.tup [])) (r':=(.tup [])) (s':=[(0,(.fp (Bm st))),(9,(Ac 3 A3 ((Al Ab st fr tw).1))),(13,(.ptr 2 0)),(14,(.own 3)),(15,(.fn 67 [] [(.ptr 2 0),(.ptr 1 0)])),(16,(.fn 68 [] [(.ptr 1 0),(.fp (.agg [(.fp (A4 st))]))])),(17,(Ag (Ae c [v]))),(18,(.int .i64 v)),(142,(Ac 3 A3 ((Al Ab st fr tw).1))),(143,(.int .i64 ((((Al Ab st fr tw).1).length:Int)))),(144,(.int .i64 ((i5:Int)))),(152,(.fn 67 [] [(.ptr 2 0),(.ptr 1 0)])),(153,(.agg [(.int .i64 ((nth ((Al Ab st fr tw).1) i5).1)),(.int .i64 ((nth ((Al Ab st fr tw).1) i5).2.1)),(.int .i64 ((nth ((Al Ab st fr tw).1) i5).2.2))])),(154,(.tup []))]) (H:=[(0,(.row [(.own 2)] 53)),(1,(.row [(Ag (Aj fr (o++((Al Ab st fr tw).1.take i5).filter (ofB v))))] 26)),(2,(.grow ((o++((Al Ab st fr tw).1.take i5).filter (ofB v)).map A3) 66 3))]) (H':=[(0,(.row [(.own 2)] 53)),(1,(.row [(Ag (Aj fr ((o++((Al Ab st fr tw).1.take i5).filter (ofB v))++[(nth ((Al Ab st fr tw).1) i5)])))] 26)),(2,(.grow (((o++((Al Ab st fr tw).1.take i5).filter (ofB v))++[(nth ((Al Ab st fr tw).1) i5)]).map A3) 66 3))]) (h2:=[(1,(.row [(Ag (Aj fr ((o++((Al Ab st fr tw).1.take i5).filter (ofB v))++[(nth ((Al Ab st fr tw).1) i5)])))] 26)),(2,(.row [(.own 4)] 53)),(3,(.grow (((k++(A0 Ab st (Aj fr o) v (Bl st v)).map (fun d=>((o.length:Int),true,d)))++((A0 Ab st (Aj fr o) v (Bu st v)).take i4).map (fun d=>((o.length:Int),false,d))).map B1) 79 7)),(4,(.grow (((o++((Al Ab st fr tw).1.take i5).filter (ofB v))++[(nth ((Al Ab st fr tw).1) i5)]).map A3) 66 3))]) (by kernel_rfl) (by kernel_rfl) (by exact Uhv) (by kernel_rfl) (by kernel_rfl) (by kernel_rfl) (by kernel_rfl) (by kernel_rfl) (Uv fr (o++((Al Ab st fr tw).1.take i5).filter (ofB v)) (nth ((Al Ab st fr tw).1) i5) (by have:=Vjv o (Al Ab st fr tw).1 i5 (ofB v);omega) ha) (by kernel_rfl) (by kernel_rfl) (by kernel_rfl) ?_
        refine B5 ?_
        refine Ap ?_
        refine Av 0 [] [0,9,13,14,15,16,17,18,142,143,144] [] hk0 v0 (cc 0 (p:=(-9223372036854775808≤(i5:Int)+1∧(i5:Int)+1≤9223372036854775807)) (by first|omega|(simp;omega)|(simp;done)|(intros;simp_all;omega)|(intros;simp_all;done))<|c0) ?_
        refine⟨by kernel_rfl,_,?_,i5+1,?_,(Eq.trans (b:=(⟨[(0,(.fp (Bm st))),(9,(Ac 3 A3 ((Al Ab st fr tw).1))),(13,(.ptr 2 0)),(14,(.own 3)),(15,(.fn 67 [] [(.ptr 2 0),(.ptr 1 0)])),(16,(.fn 68 [] [(.ptr 1 0),(.fp (.agg [(.fp (A4 st))]))])),(17,(Ag (Ae c [v]))),(18,(.int .i64 v)),(142,(Ac 3 A3 ((Al Ab st fr tw).1))),(143,(.int .i64 ((((Al Ab st fr tw).1).length:Int)))),(144,(.int .i64 ((i5:Int)+1)))],[(1,(.row [(Ag (Aj fr ((o++((Al Ab st fr tw).1.take i5).filter (ofB v))++[(nth ((Al Ab st fr tw).1) i5)])))] 26)),(2,(.row [(.own 4)] 53)),(3,(.grow (((k++(A0 Ab st (Aj fr o) v (Bl st v)).map (fun d=>((o.length:Int),true,d)))++((A0 Ab st (Aj fr o) v (Bu st v)).take i4).map (fun d=>((o.length:Int),false,d))).map B1) 79 7)),(4,(.grow (((o++((Al Ab st fr tw).1.take i5).filter (ofB v))++[(nth ((Al Ab st fr tw).1) i5)]).map A3) 66 3))],7⟩:St)) (by kernel_rfl) (by rw[T3v (o:=o) (q:=(Al Ab st fr tw).1) (p:=ofB v) (i:=i5) (by omega) (decide_eq_true (by assumption))]<;>kernel_rfl)),rfl⟩
        ·omega
        ·omega
       ·refine Ai ?_
        refine Ap ?_
        refine Av 0 [] [0,9,13,14,15,16,17,18,142,143,144] [] hk0 v0 (cc 0 (p:=(-9223372036854775808≤(i5:Int)+1∧(i5:Int)+1≤9223372036854775807)) (by first|omega|(simp;omega)|(simp;done)|(intros;simp_all;omega)|(intros;simp_all;done))<|c0) ?_
        refine⟨by kernel_rfl,_,?_,i5+1,?_,(Eq.trans (b:=(⟨[(0,(.fp (Bm st))),(9,(Ac 3 A3 ((Al Ab st fr tw).1))),(13,(.ptr 2 0)),(14,(.own 3)),(15,(.fn 67 [] [(.ptr 2 0),(.ptr 1 0)])),(16,(.fn 68 [] [(.ptr 1 0),(.fp (.agg [(.fp (A4 st))]))])),(17,(Ag (Ae c [v]))),(18,(.int .i64 v)),(142,(Ac 3 A3 ((Al Ab st fr tw).1))),(143,(.int .i64 ((((Al Ab st fr tw).1).length:Int)))),(144,(.int .i64 ((i5:Int)+1)))],[(1,(.row [(Ag (Aj fr (o++((Al Ab st fr tw).1.take i5).filter (ofB v))))] 26)),(2,(.row [(.own 4)] 53)),(3,(.grow (((k++(A0 Ab st (Aj fr o) v (Bl st v)).map (fun d=>((o.length:Int),true,d)))++((A0 Ab st (Aj fr o) v (Bu st v)).take i4).map (fun d=>((o.length:Int),false,d))).map B1) 79 7)),(4,(.grow ((o++((Al Ab st fr tw).1.take i5).filter (ofB v)).map A3) 66 3))],7⟩:St)) (by kernel_rfl) (by rw[T5 (o:=o) (q:=(Al Ab st fr tw).1) (p:=ofB v) (i:=i5) (by omega) (decide_eq_false (by assumption))]<;>kernel_rfl)),rfl⟩
        ·omega
        ·omega
      ·refine Bt ?_
       refine Ad ?_
       refine Aa [] [0,9,13,14,15,16,17,18,156,157,158] ?_
       refine A1 ?_
       refine Bz (fun g y=>∃(i6:Nat),i6≤(Al Ab st fr tw).1.length∧y=⟨[(0,(.fp (Bm st))),(9,(Ac 3 A3 ((Al Ab st fr tw).1))),(13,(.ptr 2 0)),(14,(.own 3)),(15,(.fn 67 [] [(.ptr 2 0),(.ptr 1 0)])),(16,(.fn 68 [] [(.ptr 1 0),(.fp (.agg [(.fp (A4 st))]))])),(17,(Ag (Ae c [v]))),(18,(.int .i64 v)),(156,(Ac 3 A3 ((Al Ab st fr tw).1))),(157,(.int .i64 ((((Al Ab st fr tw).1).length:Int)))),(158,(.int .i64 ((i6:Int))))],[(1,(.row [(Ag (Aj fr ((o++(Al Ab st fr tw).1.filter (ofB v))++((Al Ab st fr tw).1.take i6).filter (Cu v))))] 26)),(2,(.row [(.own 4)] 53)),(3,(.grow (((k++(A0 Ab st (Aj fr o) v (Bl st v)).map (fun d=>((o.length:Int),true,d)))++((A0 Ab st (Aj fr o) v (Bu st v)).take i4).map (fun d=>((o.length:Int),false,d))).map B1) 79 7)),(4,(.grow (((o++(Al Ab st fr tw).1.filter (ofB v))++((Al Ab st fr tw).1.take i6).filter (Cu v)).map A3) 66 3))],7⟩∧g=(Al Ab st fr tw).1.length-i6) [0,9,13,14,15,16,17,18,156,157,158] 7 _ (by omega) ⟨0,(by omega),(Eq.trans (b:=(⟨[(0,(.fp (Bm st))),(9,(Ac 3 A3 ((Al Ab st fr tw).1))),(13,(.ptr 2 0)),(14,(.own 3)),(15,(.fn 67 [] [(.ptr 2 0),(.ptr 1 0)])),(16,(.fn 68 [] [(.ptr 1 0),(.fp (.agg [(.fp (A4 st))]))])),(17,(Ag (Ae c [v]))),(18,(.int .i64 v)),(156,(Ac 3 A3 ((Al Ab st fr tw).1))),(157,(.int .i64 ((((Al Ab st fr tw).1).length:Int)))),(158,(.int .i64 0))],[(1,(.row [(Ag (Aj fr (o++((Al Ab st fr tw).1.take i5).filter (ofB v))))] 26)),(2,(.row [(.own 4)] 53)),(3,(.grow (((k++(A0 Ab st (Aj fr o) v (Bl st v)).map (fun d=>((o.length:Int),true,d)))++((A0 Ab st (Aj fr o) v (Bu st v)).take i4).map (fun d=>((o.length:Int),false,d))).map B1) 79 7)),(4,(.grow ((o++((Al Ab st fr tw).1.take i5).filter (ofB v)).map A3) 66 3))],7⟩:St)) (by kernel_rfl) (by rw[X2jv (o:=o) (q:=(Al Ab st fr tw).1) (p:=ofB v) (r:=Cu v) (i:=i5) (by omega)]<;>kernel_rfl)),rfl⟩ ?_
       rintro g6 y6 ⟨i6,f6_1,rfl,rfl⟩
       refine Aa [] [0,9,13,14,15,16,17,18,156,157,158,159] ?_
       refine Ad ?_
       refine A6 (p:=(i6:Int) < (((Al Ab st fr tw).1).length:Int)) (by kernel_rfl) (fun c11=>?_) (fun c11=>?_)
       ·refine Ai ?_
        refine Ad ?_
        refine A1 ?_
        refine Af [] [0,9,13,14,15,16,17,18,35,156,157,158] [] hk0 v0 (cc 0 (p:=(0≤(i6:Int)∧i6 < ((Al Ab st fr tw).1).length)) (by first|omega|(simp;omega)|(simp;done)|(intros;simp_all;omega)|(intros;simp_all;done))<|c0) ?_
        obtain⟨b1,hb1⟩:∃b,b=(decide (((nth ((Al Ab st fr tw).1) i6).1)=6)):=⟨_,rfl⟩
        obtain⟨b2,hb2⟩:∃b,b=(b1||(decide (((nth ((Al Ab st fr tw).1) i6).1)=7))):=⟨_,rfl⟩
        refine Af (CS:=[(5,((!b1)=true→(!b1)=true)),(6,((!b1)=true→(!b1)=true)),(7,(b1=false→(!b1)=true)),(10,(b2=true→b2=true)),(12,(b2=true→b2=true∧b2=true)),(13,(b2=true→b2=true))]) [166,167,168,171,172,173,174] [0,9,13,14,15,16,17,18,35,156,157,158,175] [(0,35)] hk0 (vk 4 165 (a:=.bool (decide (((nth ((Al Ab st fr tw).1) i6).1)=6))) (b:=.bool b1) (Imp.of_eq (by rw[hb1]))<|vk 8 169 (a:=.bool (b1||(decide (((nth ((Al Ab st fr tw).1) i6).1)=7)))) (b:=.bool b2) (Imp.of_eq (by rw[hb2]))<|v0) (by refine cc _ ?_<|cc _ ?_<|cc _ ?_<|cc _ ?_<|cc _ ?_<|cc _ ?_ c0<;>first|omega|(simp;omega)|(simp;done)|(intros;simp_all;omega)|(intros;simp_all;done)) ?_
        refine A8 (q:=b2&&(decide (((nth ((Al Ab st fr tw).1) i6).2.2)=v))) (by kernel_rfl) (fun c12=>?_) (fun c12=>?_)
        ·subst hb2 hb1
         try simp only[Ao] at c12
         refine Ap ?_
         refine Br 2 0 [] [0,9,13,14,15,16,17,18,156,157,158,176,177] [] hk0 v0 c0 ?_
         refine Ht [2,1,4] (f:=67) (cap:=[(.ptr 2 0),(.ptr 1 0)]) (al:=[(.agg [(.int .i64 ((nth ((Al Ab st fr tw).1) i6).1)),(.int .i64 ((nth ((Al Ab st fr tw).1) i6).2.1)),(.int .i64 ((nth ((Al Ab st fr tw).1) i6).2.2))])]) (al':=[(.agg [(.int .i64 ((nth ((Al Ab st fr tw).1) i6).1)),(.int .i64 ((nth ((Al Ab st fr tw).1) i6).2.1)),(.int .i64 ((nth ((Al Ab st fr tw).1) i6).2.2))]),(.ptr 0 0),(.ptr 1 0)]) (r:=(.tup [])) (r':=(.tup [])) (s':=[(0,(.fp (Bm st))),(9,(Ac 3 A3 ((Al Ab st fr tw).1))),(13,(.ptr 2 0)),(14,(.own 3)),(15,(.fn 67 [] [(.ptr 2 0),(.ptr 1 0)])),(16,(.fn 68 [] [(.ptr 1 0),(.fp (.agg [(.fp (A4 st))]))])),(17,(Ag (Ae c [v]))),(18,(.int .i64 v)),(156,(Ac 3 A3 ((Al Ab st fr tw).1))),(157,(.int .i64 ((((Al Ab st fr tw).1).length:Int)))),(158,(.int .i64 ((i6:Int)))),(176,(.fn 67 [] [(.ptr 2 0),(.ptr 1 0)])),(177,(.agg [(.int .i64 ((nth ((Al Ab st fr tw).1) i6).1)),(.int .i64 ((nth ((Al Ab st fr tw).1) i6).2.1)),(.int .i64 ((nth ((Al Ab st fr tw).1) i6).2.2))])),(178,(.tup []))]) (H:=[(0,(.row [(.own 2)] 53)),(1,(.row [(Ag (Aj fr ((o++(Al Ab st fr tw).1.filter (ofB v))++((Al Ab st fr tw).1.take i6).filter (Cu v))))] 26)),(2,(.grow (((o++(Al Ab st fr tw).1.filter (ofB v))++((Al Ab st fr tw).1.take i6).filter (Cu v)).map A3) 66 3))]) (H':=[(0,(.row [(.own 2)] 53)),(1,(.row [(Ag (Aj fr (((o++(Al Ab st fr tw).1.filter (ofB v))++((Al Ab st fr tw).1.take i6).filter (Cu v))++[(nth ((Al Ab st fr tw).1) i6)])))] 26)),(2,(.grow ((((o++(Al Ab st fr tw).1.filter (ofB v))++((Al Ab st fr tw).1.take i6).filter (Cu v))++[(nth ((Al Ab st fr tw).1) i6)]).map A3) 66 3))]) (h2:=[(1,(.row [(Ag (Aj fr (((o++(Al Ab st fr tw).1.filter (ofB v))++((Al Ab st fr tw).1.take i6).filter (Cu v))++[(nth ((Al Ab st fr tw).1) i6)])))] 26)),(2,(.row [(.own 4)] 53)),(3,(.grow (((k++(A0 Ab st (Aj fr o) v (Bl st v)).map (fun d=>((o.length:Int),true,d)))++((A0 Ab st (Aj fr o) v (Bu st v)).take i4).map (fun d=>((o.length:Int),false,d))).map B1) 79 7)),(4,(.grow ((((o++(Al Ab st fr tw).1.filter (ofB v))++((Al Ab st fr tw).1.take i6).filter (Cu v))++[(nth ((Al Ab st fr tw).1) i6)]).map A3) 66 3))]) (by kernel_rfl) (by kernel_rfl) (by exact Uhv) (by kernel_rfl) (by kernel_rfl) (by kernel_rfl) (by kernel_rfl) (by kernel_rfl) (Uv fr ((o++(Al Ab st fr tw).1.filter (ofB v))++((Al Ab st fr tw).1.take i6).filter (Cu v)) (nth ((Al Ab st fr tw).1) i6) (by have:=Vjv (o++(Al Ab st fr tw).1.filter (ofB v)) (Al Ab st fr tw).1 i6 (Cu v);have:=X59v o (Al Ab st fr tw).1 (ofB v);omega) ha) (by kernel_rfl) (by kernel_rfl) (by kernel_rfl) ?_
         refine B5 ?_
         refine Ap ?_
         refine Av 0 [] [0,9,13,14,15,16,17,18,156,157,158] [] hk0 v0 (cc 0 (p:=(-9223372036854775808≤(i6:Int)+1∧(i6:Int)+1≤9223372036854775807)) (by first|omega|(simp;omega)|(simp;done)|(intros;simp_all;omega)|(intros;simp_all;done))<|c0) ?_
         refine⟨by kernel_rfl,_,?_,i6+1,?_,(Eq.trans (b:=(⟨[(0,(.fp (Bm st))),(9,(Ac 3 A3 ((Al Ab st fr tw).1))),(13,(.ptr 2 0)),(14,(.own 3)),(15,(.fn 67 [] [(.ptr 2 0),(.ptr 1 0)])),(16,(.fn 68 [] [(.ptr 1 0),(.fp (.agg [(.fp (A4 st))]))])),(17,(Ag (Ae c [v]))),(18,(.int .i64 v)),(156,(Ac 3 A3 ((Al Ab st fr tw).1))),(157,(.int .i64 ((((Al Ab st fr tw).1).length:Int)))),(158,(.int .i64 ((i6:Int)+1)))],[(1,(.row [(Ag (Aj fr (((o++(Al Ab st fr tw).1.filter (ofB v))++((Al Ab st fr tw).1.take i6).filter (Cu v))++[(nth ((Al Ab st fr tw).1) i6)])))] 26)),(2,(.row [(.own 4)] 53)),(3,(.grow (((k++(A0 Ab st (Aj fr o) v (Bl st v)).map (fun d=>((o.length:Int),true,d)))++((A0 Ab st (Aj fr o) v (Bu st v)).take i4).map (fun d=>((o.length:Int),false,d))).map B1) 79 7)),(4,(.grow ((((o++(Al Ab st fr tw).1.filter (ofB v))++((Al Ab st fr tw).1.take i6).filter (Cu v))++[(nth ((Al Ab st fr tw).1) i6)]).map A3) 66 3))],7⟩:St)) (by kernel_rfl) (by rw[T3v (o:=(o++(Al Ab st fr tw).1.filter (ofB v))) (q:=(Al Ab st fr tw).1) (p:=Cu v) (i:=i6) (by omega) (by unfold Cu;simpa using c12)]<;>kernel_rfl)),rfl⟩
         ·omega
         ·omega
        ·subst hb2 hb1
         try simp only[Ao] at c12
         refine Ai ?_
         refine Ap ?_
         refine Av 0 [] [0,9,13,14,15,16,17,18,156,157,158] [] hk0 v0 (cc 0 (p:=(-9223372036854775808≤(i6:Int)+1∧(i6:Int)+1≤9223372036854775807)) (by first|omega|(simp;omega)|(simp;done)|(intros;simp_all;omega)|(intros;simp_all;done))<|c0) ?_
         refine⟨by kernel_rfl,_,?_,i6+1,?_,(Eq.trans (b:=(⟨[(0,(.fp (Bm st))),(9,(Ac 3 A3 ((Al Ab st fr tw).1))),(13,(.ptr 2 0)),(14,(.own 3)),(15,(.fn 67 [] [(.ptr 2 0),(.ptr 1 0)])),(16,(.fn 68 [] [(.ptr 1 0),(.fp (.agg [(.fp (A4 st))]))])),(17,(Ag (Ae c [v]))),(18,(.int .i64 v)),(156,(Ac 3 A3 ((Al Ab st fr tw).1))),(157,(.int .i64 ((((Al Ab st fr tw).1).length:Int)))),(158,(.int .i64 ((i6:Int)+1)))],[(1,(.row [(Ag (Aj fr ((o++(Al Ab st fr tw).1.filter (ofB v))++((Al Ab st fr tw).1.take i6).filter (Cu v))))] 26)),(2,(.row [(.own 4)] 53)),(3,(.grow (((k++(A0 Ab st (Aj fr o) v (Bl st v)).map (fun d=>((o.length:Int),true,d)))++((A0 Ab st (Aj fr o) v (Bu st v)).take i4).map (fun d=>((o.length:Int),false,d))).map B1) 79 7)),(4,(.grow (((o++(Al Ab st fr tw).1.filter (ofB v))++((Al Ab st fr tw).1.take i6).filter (Cu v)).map A3) 66 3))],7⟩:St)) (by kernel_rfl) (by rw[T5 (o:=(o++(Al Ab st fr tw).1.filter (ofB v))) (q:=(Al Ab st fr tw).1) (p:=Cu v) (i:=i6) (by omega) (by unfold Cu;rw[Bool.eq_false_iff];intro q;simp only[Bool.and_eq_true,Bool.or_eq_true,decide_eq_true_eq] at q;omega)]<;>kernel_rfl)),rfl⟩
         ·omega
         ·omega
       ·refine Bt ?_
        refine Bt ?_
        refine⟨by kernel_rfl,_,?_,n-1,(Ae c [Dr Ab st (Aj fr o) c]),(o++Dk (Al Ab st fr tw).1 (Dr Ab st (Aj fr o) c)),(k++Dm Ab st (Aj fr o) (Dr Ab st (Aj fr o) c) (o.length:Int)),?_,?_,?_,?_,?_,?_,(Eq.trans (b:=(⟨[(0,(.fp (Bm st))),(9,(Ac 3 A3 ((Al Ab st fr tw).1))),(13,(.ptr 2 0)),(14,(.own 3)),(15,(.fn 67 [] [(.ptr 2 0),(.ptr 1 0)])),(16,(.fn 68 [] [(.ptr 1 0),(.fp (.agg [(.fp (A4 st))]))])),(17,(Ag (Ae c [v])))],[(1,(.row [(Ag (Aj fr ((o++(Al Ab st fr tw).1.filter (ofB v))++((Al Ab st fr tw).1.take i6).filter (Cu v))))] 26)),(2,(.row [(.own 4)] 53)),(3,(.grow (((k++(A0 Ab st (Aj fr o) v (Bl st v)).map (fun d=>((o.length:Int),true,d)))++((A0 Ab st (Aj fr o) v (Bu st v)).take i4).map (fun d=>((o.length:Int),false,d))).map B1) 79 7)),(4,(.grow (((o++(Al Ab st fr tw).1.filter (ofB v))++((Al Ab st fr tw).1.take i6).filter (Cu v)).map A3) 66 3))],5⟩:St)) (by kernel_rfl) (by rw[←hv,Q8t (o:=o) (q:=(Al Ab st fr tw).1) (v:=v) (i:=i6) (by omega),X5o (k:=k) (m:=Ab) (st:=st) (th:=Aj fr o) (v:=v) (p:=(o.length:Int)) (i:=i4) (by omega)]<;>kernel_rfl)),rfl⟩
        all_goals skip
        ·have:=Km (b:=v) hvc;rw[←hv];omega
        ·have:=Km (b:=v) hvc;rw[←hv];omega
        ·exact Fm _ _
        ·exact fun x hx=>hci x (minusZ_mem.1 hx).1
        ·have h1:=Km (b:=v) hvc;have h2:=X4xv (Al Ab st fr tw).1 v;rw[←hv,List.length_append];omega
        ·have h1:=Km (b:=v) hvc;rw[←hv,List.length_append];unfold Dm;rw[List.length_append,List.length_map,List.length_map];omega
        ·rw[←Kkv hcne hcn];exact hoF
  ·refine Bt ?_
   refine Ad ?_
   refine Aa [] [13,14,15,180,181,182] ?_
   refine A1 ?_
   refine Bz (fun g y=>∃(i7:Nat),i7≤(Al Ab st fr tw).1.length∧y=⟨[(13,(.ptr 2 0)),(14,(.own 3)),(15,(.fn 67 [] [(.ptr 2 0),(.ptr 1 0)])),(180,(Ac 3 A3 ((Al Ab st fr tw).1))),(181,(.int .i64 ((((Al Ab st fr tw).1).length:Int)))),(182,(.int .i64 ((i7:Int))))],[(1,(.row [(Ag (Aj fr (o++((Al Ab st fr tw).1.take i7).filter Cr)))] 26)),(2,(.row [(.own 4)] 53)),(3,(.grow (k.map B1) 79 7)),(4,(.grow ((o++((Al Ab st fr tw).1.take i7).filter Cr).map A3) 66 3))],5⟩∧g=(Al Ab st fr tw).1.length-i7) [13,14,15,180,181,182] 5 _ (by omega) ⟨0,(by omega),(Eq.trans (b:=(⟨[(13,(.ptr 2 0)),(14,(.own 3)),(15,(.fn 67 [] [(.ptr 2 0),(.ptr 1 0)])),(180,(Ac 3 A3 ((Al Ab st fr tw).1))),(181,(.int .i64 ((((Al Ab st fr tw).1).length:Int)))),(182,(.int .i64 0))],[(1,(.row [(Ag (Aj fr o))] 26)),(2,(.row [(.own 4)] 53)),(3,(.grow (k.map B1) 79 7)),(4,(.grow (o.map A3) 66 3))],5⟩:St)) (by kernel_rfl) (by rw[show o++((Al Ab st fr tw).1.take 0).filter Cr=o from by rw[List.take_zero,List.filter_nil,List.append_nil]]<;>kernel_rfl)),rfl⟩ ?_
   rintro g7 y7 ⟨i7,f7_1,rfl,rfl⟩
   refine Aa [] [13,14,15,180,181,182,183] ?_
   refine Ad ?_
   refine A6 (p:=(i7:Int) < (((Al Ab st fr tw).1).length:Int)) (by kernel_rfl) (fun c13=>?_) (fun c13=>?_)
   ·refine Ai ?_
    refine Ad ?_
    refine A1 ?_
    refine Af [] [13,14,15,37,180,181,182] [] hk0 v0 (cc 0 (p:=(0≤(i7:Int)∧i7 < ((Al Ab st fr tw).1).length)) (by first|omega|(simp;omega)|(simp;done)|(intros;simp_all;omega)|(intros;simp_all;done))<|c0) ?_
    refine Af [] [13,14,15,37,180,181,182,188] [(0,37)] hk0 v0 c0 ?_
    refine A6 (p:=((nth ((Al Ab st fr tw).1) i7).1)=2) (by kernel_rfl) (fun c14=>?_) (fun c14=>?_)
    ·refine Ap ?_
     refine Br 2 0 [] [13,14,15,180,181,182,189,190] [] hk0 v0 c0 ?_
     refine Ht [2,1,4] (f:=67) (cap:=[(.ptr 2 0),(.ptr 1 0)]) (al:=[(.agg [(.int .i64 ((nth ((Al Ab st fr tw).1) i7).1)),(.int .i64 ((nth ((Al Ab st fr tw).1) i7).2.1)),(.int .i64 ((nth ((Al Ab st fr tw).1) i7).2.2))])]) (al':=[(.agg [(.int .i64 ((nth ((Al Ab st fr tw).1) i7).1)),(.int .i64 ((nth ((Al Ab st fr tw).1) i7).2.1)),(.int .i64 ((nth ((Al Ab st fr tw).1) i7).2.2))]),(.ptr 0 0),(.ptr 1 0)]) (r:=(.tup [])) (r':=(.tup [])) (s':=[(13,(.ptr 2 0)),(14,(.own 3)),(15,(.fn 67 [] [(.ptr 2 0),(.ptr 1 0)])),(180,(Ac 3 A3 ((Al Ab st fr tw).1))),(181,(.int .i64 ((((Al Ab st fr tw).1).length:Int)))),(182,(.int .i64 ((i7:Int)))),(189,(.fn 67 [] [(.ptr 2 0),(.ptr 1 0)])),(190,(.agg [(.int .i64 ((nth ((Al Ab st fr tw).1) i7).1)),(.int .i64 ((nth ((Al Ab st fr tw).1) i7).2.1)),(.int .i64 ((nth ((Al Ab st fr tw).1) i7).2.2))])),(191,(.tup []))]) (H:=[(0,(.row [(.own 2)] 53)),(1,(.row [(Ag (Aj fr (o++((Al Ab st fr tw).1.take i7).filter Cr)))] 26)),(2,(.grow ((o++((Al Ab st fr tw).1.take i7).filter Cr).map A3) 66 3))]) (H':=[(0,(.row [(.own 2)] 53)),(1,(.row [(Ag (Aj fr ((o++((Al Ab st fr tw).1.take i7).filter Cr)++[(nth ((Al Ab st fr tw).1) i7)])))] 26)),(2,(.grow (((o++((Al Ab st fr tw).1.take i7).filter Cr)++[(nth ((Al Ab st fr tw).1) i7)]).map A3) 66 3))]) (h2:=[(1,(.row [(Ag (Aj fr ((o++((Al Ab st fr tw).1.take i7).filter Cr)++[(nth ((Al Ab st fr tw).1) i7)])))] 26)),(2,(.row [(.own 4)] 53)),(3,(.grow (k.map B1) 79 7)),(4,(.grow (((o++((Al Ab st fr tw).1.take i7).filter Cr)++[(nth ((Al Ab st fr tw).1) i7)]).map A3) 66 3))]) (by kernel_rfl) (by kernel_rfl) (by exact Uhv) (by kernel_rfl) (by kernel_rfl) (by kernel_rfl) (by kernel_rfl) (by kernel_rfl) (Uv fr (o++((Al Ab st fr tw).1.take i7).filter Cr) (nth ((Al Ab st fr tw).1) i7) (by have:=Vjv o (Al Ab st fr tw).1 i7 Cr;omega) ha) (by kernel_rfl) (by kernel_rfl) (by kernel_rfl) ?_
     refine B5 ?_
     refine Ap ?_
     refine Av 0 [] [13,14,15,180,181,182] [] hk0 v0 (cc 0 (p:=(-9223372036854775808≤(i7:Int)+1∧(i7:Int)+1≤9223372036854775807)) (by first|omega|(simp;omega)|(simp;done)|(intros;simp_all;omega)|(intros;simp_all;done))<|c0) ?_
     refine⟨by kernel_rfl,_,?_,i7+1,?_,(Eq.trans (b:=(⟨[(13,(.ptr 2 0)),(14,(.own 3)),(15,(.fn 67 [] [(.ptr 2 0),(.ptr 1 0)])),(180,(Ac 3 A3 ((Al Ab st fr tw).1))),(181,(.int .i64 ((((Al Ab st fr tw).1).length:Int)))),(182,(.int .i64 ((i7:Int)+1)))],[(1,(.row [(Ag (Aj fr ((o++((Al Ab st fr tw).1.take i7).filter Cr)++[(nth ((Al Ab st fr tw).1) i7)])))] 26)),(2,(.row [(.own 4)] 53)),(3,(.grow (k.map B1) 79 7)),(4,(.grow (((o++((Al Ab st fr tw).1.take i7).filter Cr)++[(nth ((Al Ab st fr tw).1) i7)]).map A3) 66 3))],5⟩:St)) (by kernel_rfl) (by rw[T3v (o:=o) (q:=(Al Ab st fr tw).1) (p:=Cr) (i:=i7) (by omega) (decide_eq_true (by assumption))]<;>kernel_rfl)),rfl⟩
     ·omega
     ·omega
    ·refine Ai ?_
     refine Ap ?_
     refine Av 0 [] [13,14,15,180,181,182] [] hk0 v0 (cc 0 (p:=(-9223372036854775808≤(i7:Int)+1∧(i7:Int)+1≤9223372036854775807)) (by first|omega|(simp;omega)|(simp;done)|(intros;simp_all;omega)|(intros;simp_all;done))<|c0) ?_
     refine⟨by kernel_rfl,_,?_,i7+1,?_,(Eq.trans (b:=(⟨[(13,(.ptr 2 0)),(14,(.own 3)),(15,(.fn 67 [] [(.ptr 2 0),(.ptr 1 0)])),(180,(Ac 3 A3 ((Al Ab st fr tw).1))),(181,(.int .i64 ((((Al Ab st fr tw).1).length:Int)))),(182,(.int .i64 ((i7:Int)+1)))],[(1,(.row [(Ag (Aj fr (o++((Al Ab st fr tw).1.take i7).filter Cr)))] 26)),(2,(.row [(.own 4)] 53)),(3,(.grow (k.map B1) 79 7)),(4,(.grow ((o++((Al Ab st fr tw).1.take i7).filter Cr).map A3) 66 3))],5⟩:St)) (by kernel_rfl) (by rw[T5 (o:=o) (q:=(Al Ab st fr tw).1) (p:=Cr) (i:=i7) (by omega) (decide_eq_false (by assumption))]<;>kernel_rfl)),rfl⟩
     ·omega
     ·omega
   ·refine Bt ?_
    refine Aa [] [6,7,8] ?_
    refine Ah ?_
    refine RK wR [(.row 3 ((o++((Al Ab st fr tw).1.take i7).filter Cr).map A3).length (fun ix=>((o++((Al Ab st fr tw).1.take i7).filter Cr).map A3).getD ix Bp)),(.row 7 (k.map B1).length (fun ix=>(k.map B1).getD ix Bp)),(.int .i64 0)] ?_
    obtain rfl:c=[]:=List.length_eq_zero_iff.1 (by omega)
    rw[Psv] at hoF
    have hR:C7 Ab st fr tw=(o++((Al Ab st fr tw).1.take i7).filter Cr,k,0):=by rw[List.take_of_length_le (by omega)];exact Q8u c1 hoF
    rw[hR]
    simp only[An]
    exact(Imp.tups (ImpL.cons (Imp.list (f:=A3) (List.length_map _)) (ImpL.cons (Imp.list (f:=B1) (List.length_map _)) (ImpL.cons Imp.refl ImpL.nil)))).same
end Sv
end
section
open Go Go.RowKit
namespace Sv
theorem Q2xv {l:List DepT} {n:Nat} (h:∀i,i < l.length→(nth l i).size≤n):∀d∈l,d.size≤n:=by
  intro d hd
  obtain⟨i,hi,rfl⟩:=List.getElem_of_mem hd
  have:=h i hi
  rwa [El hi] at this
theorem Q8xv {st : PoolT} (hi : IdxOk st) {fr tw : List Int} (ka : ∀ x ∈ fr, 0 ≤ x ∧ x < st.all.length) (kb : ∀ x ∈ tw, 0 ≤ x ∧ x < st.all.length) :
    (C7 Ab st fr tw).1.length≤200∧(C7 Ab st fr tw).2.1.length≤1677721600∧(∀x∈(C7 Ab st fr tw).2.1,x.2.2.size≤4194304)∧(C7 Ab st fr tw).2.2=0:=by
  have h1:=Sz (m:=Ab) ka kb
  have h2:=Wqv hi ka kb
  have hq:=Jg (m:=Ab) ka kb
  rw[hq] at h2
  have hcb:∀x∈Ae tw fr,0≤x∧x < st.all.length:=fun x hx=>kb x (minusZ_mem.1 hx).1
  have hcl:(Ae tw fr).length≤200:=Nat.le_trans (Sfv (Fm _ _) hcb) hi.1
  refine⟨by rw[h1.1.length_eq];exact h2,?_,?_,h1.2⟩
  · unfold C7
    rw[hq,if_neg (by simp)]
    have h3:=Q3i (m:=Ab) (st:=st) (a:=fr) (N:=4194304) (fun id h4 h5=>⟨(Hh hi ⟨h4,h5⟩).1,(Iq hi ⟨h4,h5⟩).1⟩) (q:=Cm (Bs Ab st) fr tw) (Ae tw fr).length (Ae tw fr) [] [] (Nat.le_refl _) hcb
    simp only[List.length_nil] at h3
    exact Nat.le_trans h3 (by omega)
  · unfold C7
    rw[hq,if_neg (by simp)]
    exact Q3fv (m:=Ab) (st:=st) (a:=fr) (N:=4194304) (fun id h4 h5=>⟨Q2xv (Hh hi ⟨h4,h5⟩).2,Q2xv (Iq hi ⟨h4,h5⟩).2⟩) _ _ _ _ hcb (fun x hx=>by cases hx)
theorem Q83 {st:PoolT} {fr tw:List Int} (ka:∀x∈fr,0≤x∧x < st.all.length) (kb:∀x∈tw,0≤x∧x < st.all.length):∀x∈(C7 Ab st fr tw).1,0≤x.2.1∧x.2.1 < st.all.length:=by
  intro x hx
  obtain⟨i,hi,rfl⟩:=List.mem_map.1 ((Sz (m:=Ab) ka kb).1.mem_iff.1 hx)
  rw[(M8 Ab st _ _ i).1]
  rcases unionZ_mem.1 hi with q|q
  · exact kb i (minusZ_mem.1 q).1
  · exact ka i (minusZ_mem.1 q).1
end Sv
end
section
open Go Go.RowKit
namespace Sv
attribute [local irreducible] SW SO Bn
set_option maxHeartbeats 1000000
set_option maxRecDepth 100000
theorem X3ev:Au Tryz.prog 26:=Ay Tryz.func26 (by kernel_rfl) rfl
theorem Q15v:Au Tryz.prog 22:=Ay Tryz.func22 (by kernel_rfl) rfl
theorem Uev:Au Tryz.prog 80:=Ay Tryz.func80 (by kernel_rfl) rfl
theorem X42v {a b:DepT} (h1:a.kind=b.kind) (h2:a.name=b.name) (h3:a.op=b.op) (h4:a.evr=b.evr) (h5:a.args=b.args):a=b:=by
 cases a;cases b;simp_all [DepT.kind,DepT.name,DepT.op,DepT.evr,DepT.args]
theorem Y8v {α:Type} [Inhabited α] {a b:List α} (hl:a.length=b.length) (h:∀j,j < a.length→nth a j=nth b j):a=b:=List.ext_getElem hl fun j h1 h2=>by
 have:=h j h1
 rwa [El h1,El h2] at this
def owB:DepT:=.mk 1 [98] 0 [] []
def owP:PkgT:=⟨[97],[49,45,49],[110,111,97,114,99,104],[],[],[owB],[],[],[],[],[],[]⟩
def owQ:PkgT:=⟨[98],[49,45,49],[110,111,97,114,99,104],[],[],[],[],[],[],[],[],[]⟩
def owR:RepoT:=⟨[109,97,105,110],0,false,[owP,owQ]⟩
def owS:PoolT:=(Aq (Am 1) [owR]).1
def owA:List (Int × Int):=(Aq (Am 1) [owR]).2
def owX:Bc:=(1,1,-1)
def owY:Bc:=(1,0,-1)
def owK:Ck:=(0,false,owB)
theorem Yn:IdxOk owS:=Ve fun i hi=>by
 have:i=0:=by simpa using hi
 subst this
 decide
theorem Q8s:FnV Tryz.prog 9 [.int .i64 1,Ac 4 Bf [owR]] (.tup [.fp (Bm owS),.fp (Kh owS owA)]):=Vz 1 [owR] (by decide) fun i hi=>by
 have:i=0:=by simpa using hi
 subst this
 decide
theorem Q8q:owS.all.length=2:=by kernel_rfl
theorem Ymv:Ae [0,1] []=[0,1]:=(Lo (l:=[0,1].filter fun z => !decide (z∈[])) (k:=[0,1]) ⟨by simp,by simp,trivial⟩ (by simp)).symm
theorem Q8ov:Al Ab owS [] [0,1]=([owY,owX],0):=by
 have h2:Ae [] [0,1]=[]:=O9
 have h3:Aw [0,1] []=[0,1]:=Nc (l:=[0,1]) ⟨by simp,by simp,trivial⟩
 rw[Jg (by simp) (by rw[Q8q];simp)]
 unfold Cm
 rw[Ymv,h2,h3]
 have k1:Bs Ab owS [0,1] [] 0=owY:=by kernel_rfl
 have k2:Bs Ab owS [0,1] [] 1=owX:=by kernel_rfl
 rw[List.map_cons,List.map_cons,List.map_nil,k1,k2]
theorem Q8r:C7 Ab owS [] [0,1]=([owX,owY],[],0):=by
 unfold C7
 rw[Q8ov,if_neg (by simp),Ymv]
 have e:Dd Ab owS [owY,owX] [] ([0,1]:List Int).length [0,1] [] []=([owX,owY],[]):=by
  have n1:Dr Ab owS (Aj [] []) [0,1]=1:=by kernel_rfl
  have m1:Ae [0,1] [1]=[0]:=by kernel_rfl
  have d1:([]:List Bc)++Dk [owY,owX] 1=[owX]:=by kernel_rfl
  have b1:([]:List Ck)++Dm Ab owS (Aj [] []) 1 (([]:List Bc).length:Int)=[]:=by kernel_rfl
  have n2:Dr Ab owS (Aj [] [owX]) [0]=0:=by
   have:=L1v (m:=Ab) (st:=owS) (th:=Aj [] [owX]) (c:=[0]) (by simp)
   simpa using this
  have m2:Ae [0] [0]=[]:=by kernel_rfl
  have d2:[owX]++Dk [owY,owX] 0=[owX,owY]:=by kernel_rfl
  have u:Aw (Aj [] [owX]) [0]=[0,1]:=by
   rw[show Aj [] [owX]=[1] from by kernel_rfl]
   exact(Lo (l:=[1]++[0]) (k:=[0,1]) ⟨by simp,by simp,trivial⟩ (by simp;omega)).symm
  have b2:([]:List Ck)++Dm Ab owS (Aj [] [owX]) 0 (([owX]:List Bc).length:Int)=[]:=by
   unfold Dm A0
   rw[u]
   kernel_rfl
  rw[Kkv (by simp) (by simp),n1,m1,d1,b1,Kkv (by simp) (by simp),n2,m2,d2,b2,Psv]
 rw[e]
 have z:[owX,owY]++[owY,owX].filter Cr=[owX,owY]:=by kernel_rfl
 exact congrArg (fun q=>(q,([]:List Ck),(0:Int))) z
theorem Q8p:C7 Ab owS [] [0]=([(1,0,-1)],[owK],0):=by kernel_rfl
theorem X5q {x y:Ck} (h1:x.1=y.1) (h2:x.2.1=y.2.1) (h3:x.2.2=y.2.2):x=y:=Prod.ext h1 (Prod.ext h2 h3)
theorem Jov {α:Type} [Inhabited α] {l:List α} {i:Nat} (h:i < l.length):nth l i∈l:=by rw[El h];exact List.getElem_mem h
open Classical in
noncomputable def Ocv (a b:List Ck):Bool:=decide (a=b)
open Classical in
theorem Q3j {a b:List Ck} (h:a=b):Ocv a b=true:=by unfold Ocv;exact decide_eq_true h
open Classical in
theorem Q3k {a b:List Ck} (h:¬a=b):Ocv a b=false:=by unfold Ocv;exact decide_eq_false h
theorem Q61v (a b : DepT) (ha : a.size ≤ 4194304) (hb : b.size ≤ 4194304) (ih : ∀ i, i < a.args.length → i < b.args.length → FnV Tryz.prog 80 [(.agg [(.int .i64 ((nth a.args i).kind)), (.str ((nth a.args i).name)), (.int .i64 ((nth a.args i).op)), (.str ((nth a.args i).evr)), (.row 5 (nth a.args i).args.length (depAt (nth a.args i).args))]), (.agg [(.int .i64 ((nth b.args i).kind)), (.str ((nth b.args i).name)), (.int .i64 ((nth b.args i).op)), (.str ((nth b.args i).evr)), (.row 5 (nth b.args i).args.length (depAt (nth b.args i).args))])] (.bool (Ca (nth a.args i) (nth b.args i)))) :
  FnV Tryz.prog 80 [(.agg [(.int .i64 a.kind),(.str a.name),(.int .i64 a.op),(.str a.evr),(.row 5 a.args.length (depAt a.args))]),(.agg [(.int .i64 b.kind),(.str b.name),(.int .i64 b.op),(.str b.evr),(.row 5 b.args.length (depAt b.args))])] (.bool ((Ca a b))):=by
 have hal:=D2 a.args
 have hza:=E1 a
 have hbl:=D2 b.args
 have hzb:=E1 b
 refine A5 [.tmp 4] Tryz.func80 rfl Tryz.ntmps80 rfl rfl (fun B F hF=>?_)
 refine Af [] [2,3] [(1,2),(2,3)] hk0 v0 c0 ?_
 refine Ad ?_
 refine Af (CS:=[(7,((!(!decide (a.kind=b.kind)))=true→(!(!decide (a.kind=b.kind)))=true)),(9,((!(!decide (a.kind=b.kind)))=true→(!(!decide (a.kind=b.kind)))=true)),(10,((!(!decide (a.kind=b.kind)))=true→(!(!decide (a.kind=b.kind)))=true∧(!(!decide (a.kind=b.kind)))=true)),(11,((!decide (a.kind=b.kind))=false→(!(!decide (a.kind=b.kind)))=true)),(14,((!((!decide (a.kind=b.kind))||(!decide (a.name=b.name))))=true→(!((!decide (a.kind=b.kind))||(!decide (a.name=b.name))))=true)),(16,((!((!decide (a.kind=b.kind))||(!decide (a.name=b.name))))=true→(!((!decide (a.kind=b.kind))||(!decide (a.name=b.name))))=true)),(17,((!((!decide (a.kind=b.kind))||(!decide (a.name=b.name))))=true→(!((!decide (a.kind=b.kind))||(!decide (a.name=b.name))))=true∧(!((!decide (a.kind=b.kind))||(!decide (a.name=b.name))))=true)),(18,(((!decide (a.kind=b.kind))||(!decide (a.name=b.name)))=false→(!((!decide (a.kind=b.kind))||(!decide (a.name=b.name))))=true)),(21,((!(((!decide (a.kind=b.kind))||(!decide (a.name=b.name)))||(!decide (a.op=b.op))))=true→(!(((!decide (a.kind=b.kind))||(!decide (a.name=b.name)))||(!decide (a.op=b.op))))=true)),(23,((!(((!decide (a.kind=b.kind))||(!decide (a.name=b.name)))||(!decide (a.op=b.op))))=true→(!(((!decide (a.kind=b.kind))||(!decide (a.name=b.name)))||(!decide (a.op=b.op))))=true)),(24,((!(((!decide (a.kind=b.kind))||(!decide (a.name=b.name)))||(!decide (a.op=b.op))))=true→(!(((!decide (a.kind=b.kind))||(!decide (a.name=b.name)))||(!decide (a.op=b.op))))=true∧(!(((!decide (a.kind=b.kind))||(!decide (a.name=b.name)))||(!decide (a.op=b.op))))=true)),(25,((((!decide (a.kind=b.kind))||(!decide (a.name=b.name)))||(!decide (a.op=b.op)))=false→(!(((!decide (a.kind=b.kind))||(!decide (a.name=b.name)))||(!decide (a.op=b.op))))=true)),(28,((!((((!decide (a.kind=b.kind))||(!decide (a.name=b.name)))||(!decide (a.op=b.op)))||(!decide (a.evr=b.evr))))=true→(!((((!decide (a.kind=b.kind))||(!decide (a.name=b.name)))||(!decide (a.op=b.op)))||(!decide (a.evr=b.evr))))=true)),(29,((!((((!decide (a.kind=b.kind))||(!decide (a.name=b.name)))||(!decide (a.op=b.op)))||(!decide (a.evr=b.evr))))=true→(!((((!decide (a.kind=b.kind))||(!decide (a.name=b.name)))||(!decide (a.op=b.op)))||(!decide (a.evr=b.evr))))=true)),(31,((!((((!decide (a.kind=b.kind))||(!decide (a.name=b.name)))||(!decide (a.op=b.op)))||(!decide (a.evr=b.evr))))=true→(!((((!decide (a.kind=b.kind))||(!decide (a.name=b.name)))||(!decide (a.op=b.op)))||(!decide (a.evr=b.evr))))=true)),(32,((!((((!decide (a.kind=b.kind))||(!decide (a.name=b.name)))||(!decide (a.op=b.op)))||(!decide (a.evr=b.evr))))=true→(!((((!decide (a.kind=b.kind))||(!decide (a.name=b.name)))||(!decide (a.op=b.op)))||(!decide (a.evr=b.evr))))=true)),(33,((!((((!decide (a.kind=b.kind))||(!decide (a.name=b.name)))||(!decide (a.op=b.op)))||(!decide (a.evr=b.evr))))=true→(!((((!decide (a.kind=b.kind))||(!decide (a.name=b.name)))||(!decide (a.op=b.op)))||(!decide (a.evr=b.evr))))=true∧(!((((!decide (a.kind=b.kind))||(!decide (a.name=b.name)))||(!decide (a.op=b.op)))||(!decide (a.evr=b.evr))))=true)),(34,(((((!decide (a.kind=b.kind))||(!decide (a.name=b.name)))||(!decide (a.op=b.op)))||(!decide (a.evr=b.evr)))=false→(!((((!decide (a.kind=b.kind))||(!decide (a.name=b.name)))||(!decide (a.op=b.op)))||(!decide (a.evr=b.evr))))=true))]) [13,14,15,16,17,20,21,22,23,24,27,28,29,30,31,34,35,36,37,38,39,40] [2,3,41] [] hk0 v0 (by refine cc _ ?_<|cc _ ?_<|cc _ ?_<|cc _ ?_<|cc _ ?_<|cc _ ?_<|cc _ ?_<|cc _ ?_<|cc _ ?_<|cc _ ?_<|cc _ ?_<|cc _ ?_<|cc _ ?_<|cc _ ?_<|cc _ ?_<|cc _ ?_<|cc _ ?_<|cc _ ?_ c0<;>first|omega|(simp;omega)|(simp;done)|(intros;simp_all;omega)|(intros;simp_all;done)) ?_
 refine A8 (q:=((((!decide (a.kind=b.kind))||(!decide (a.name=b.name)))||(!decide (a.op=b.op)))||(!decide (a.evr=b.evr)))||(!decide ((a.args.length:Int)=(b.args.length:Int)))) (by kernel_rfl) (fun c1=>?_) (fun c1=>?_)
 ·try simp only[Ao] at c1
  refine Aa [] [4] ?_
  refine Ah ?_
  refine RK wR [(.bool false)] ?_
  refine Same.of_eq (congrArg AV.bool (Eq.symm ?_))
  rw[Bool.eq_false_iff]
  intro q
  have q:=(Jk _ _).1 q
  subst q
  simp at c1
 ·try simp only[Ao] at c1
  refine Ai ?_
  refine Ad ?_
  refine Aa [] [2,3,5] ?_
  refine A1 ?_
  refine Bz (fun g y=>∃(i:Nat),i≤a.args.length∧(∀j,j < i→nth a.args j=nth b.args j)∧y=⟨[(2,(.fp (.agg [(.int .i64 a.kind),(.str a.name),(.int .i64 a.op),(.str a.evr),(.row 5 a.args.length (depAt a.args))]))),(3,(.fp (.agg [(.int .i64 b.kind),(.str b.name),(.int .i64 b.op),(.str b.evr),(.row 5 b.args.length (depAt b.args))]))),(5,(.int .i64 ((i:Int))))],[],2⟩∧g=a.args.length-i) [2,3,5] 2 _ (by omega) ⟨0,(by omega),(by exact fun j hj=>by omega),(by kernel_rfl),rfl⟩ ?_
  rintro g1 y1 ⟨i,f1_1,f1_2,rfl,rfl⟩
  refine Ad ?_
  refine Aa [] [2,3,5,46] ?_
  refine A6 (p:=(i:Int) < (a.args.length:Int)) (by kernel_rfl) (fun c2=>?_) (fun c2=>?_)
  ·refine Ai ?_
   refine Ad ?_
   refine A1 ?_
   refine C2 (CS:=[(3,(0≤(i:Int)∧i < a.args.length)),(8,(0≤(i:Int)∧i < b.args.length))]) [] [2,3,5,6] [] (hk 10 Uev (ih i (by omega) (by omega))<|hk0) (vk 3 50 (Ho a.args)<|vk 8 55 (Ho b.args)<|v0) (by refine cc _ ?_<|cc _ ?_ c0<;>first|omega|(simp;omega)|(simp;done)|(intros;simp_all;omega)|(intros;simp_all;done)) ?_
   refine Aa [] [2,3,5,61] ?_
   refine A8 (q:=!(Ca (nth a.args i) (nth b.args i))) (by kernel_rfl) (fun c3=>?_) (fun c3=>?_)
   ·try simp only[Ao] at c3
    refine Aa [] [4] ?_
    refine Ah ?_
    refine RK wR [(.bool false)] ?_
    refine Same.of_eq (congrArg AV.bool (Eq.symm ?_))
    rw[Bool.eq_false_iff]
    intro q
    have q:=(Jk _ _).1 q
    subst q
    rw[(Jk _ _).2 rfl] at c3
    simp at c3
   ·try simp only[Ao] at c3
    refine Ai ?_
    refine Ap ?_
    refine Av 0 [] [2,3,5] [] hk0 v0 (cc 1 (p:=(-9223372036854775808≤(i:Int)+1∧(i:Int)+1≤9223372036854775807)) (by first|omega|(simp;omega)|(simp;done)|(intros;simp_all;omega)|(intros;simp_all;done))<|c0) ?_
    refine⟨by kernel_rfl,_,?_,i+1,?_,?_,(by kernel_rfl),rfl⟩
    ·omega
    ·omega
    ·intro j hj
     by_cases h:j=i
     ·subst h;exact(Jk _ _).1 (by simp_all)
     ·exact f1_2 j (by omega)
  ·refine Bt ?_
   refine Aa [] [4] ?_
   refine Ah ?_
   refine RK wR [(.bool true)] ?_
   refine Same.of_eq (congrArg AV.bool (Eq.symm ?_))
   exact(Jk _ _).2 (X42v (by omega) (by simp_all) (by omega) (by simp_all) (Y8v (by omega) (fun j hj=>f1_2 j (by omega))))
theorem Q62:∀(n:Nat) (a b:DepT),a.size≤n→a.size≤4194304→b.size≤4194304→FnV Tryz.prog 80 [(.agg [(.int .i64 (a.kind)),(.str (a.name)),(.int .i64 (a.op)),(.str (a.evr)),(.row 5 a.args.length (depAt a.args))]),(.agg [(.int .i64 (b.kind)),(.str (b.name)),(.int .i64 (b.op)),(.str (b.evr)),(.row 5 b.args.length (depAt b.args))])] (.bool (Ca a b)):=by
 intro n
 induction n with
 |zero=>intro a b h;have:=E1 a;omega
 |succ n ih=>exact fun a b h ha hb=>Q61v a b ha hb fun i h1 h2=>ih _ _ (by have h1:=Gy h1;omega) (by have h1:=Gy h1;omega) (by have h1:=Gy h2;omega)
theorem Q63 (a b : List Ck) (ha : a.length ≤ 4611686018427) (hsa : ∀ x ∈ a, x.2.2.size ≤ 4194304) (hsb : ∀ x ∈ b, x.2.2.size ≤ 4194304) :
  FnV Tryz.prog 26 [(Ac 7 B1 a),(Ac 7 B1 b)] (.bool (Ocv a b)):=by
 refine A5 [.tmp 4] Tryz.func26 rfl Tryz.ntmps26 rfl rfl (fun B F hF=>?_)
 refine Aa [] [0,1] ?_
 refine Ad ?_
 refine Aa [] [0,1,11] ?_
 refine Dt (p:=(a.length:Int)=(b.length:Int)) (by kernel_rfl) (fun c1=>?_) (fun c1=>?_)
 ·refine Aa [] [4] ?_
  refine Ah ?_
  refine RK wR [(.bool false)] ?_
  exact Same.of_eq (congrArg AV.bool (Q3k (fun q=>c1 (by rw[q]))).symm)
 ·refine Ai ?_
  refine Ad ?_
  refine Aa [] [0,1,5] ?_
  refine A1 ?_
  refine Bz (fun g y=>∃(i:Nat),i≤a.length∧(∀j,j < i→nth a j=nth b j)∧y=⟨[(0,(Ac 7 B1 a)),(1,(Ac 7 B1 b)),(5,(.int .i64 ((i:Int))))],[],0⟩∧g=a.length-i) [0,1,5] 0 _ (by omega) ⟨0,(by omega),(by exact fun j hj=>by omega),(by kernel_rfl),rfl⟩ ?_
  rintro g1 y1 ⟨i,f1_1,f1_2,rfl,rfl⟩
  refine Ad ?_
  refine Aa [] [0,1,5,15] ?_
  refine A6 (p:=(i:Int) < (a.length:Int)) (by kernel_rfl) (fun c2=>?_) (fun c2=>?_)
  ·refine Ai ?_
   refine Ad ?_
   refine A1 ?_
   refine C2 (CS:=[(2,(0≤(i:Int)∧i < a.length)),(7,(0≤(i:Int)∧i < b.length))]) [] [0,1,5,6] [] (hk 10 Uev (Q62 _ (nth a i).2.2 (nth b i).2.2 (Nat.le_refl _) (hsa _ (Jov (by omega))) (hsb _ (Jov (by omega))))<|hk0) v0 (by refine cc _ ?_<|cc _ ?_ c0<;>first|omega|(simp;omega)|(simp;done)|(intros;simp_all;omega)|(intros;simp_all;done)) ?_
   refine C2 (CS:=[(5,((!(!(Ca (nth a i).2.2 (nth b i).2.2)))=true→((!(!(Ca (nth a i).2.2 (nth b i).2.2)))=true∧(!(!(Ca (nth a i).2.2 (nth b i).2.2)))=true)∧(0≤(i:Int)∧i < a.length))),(6,((!(!(Ca (nth a i).2.2 (nth b i).2.2)))=true→(!(!(Ca (nth a i).2.2 (nth b i).2.2)))=true)),(7,((!(!(Ca (nth a i).2.2 (nth b i).2.2)))=true→(!(!(Ca (nth a i).2.2 (nth b i).2.2)))=true)),(10,((!(!(Ca (nth a i).2.2 (nth b i).2.2)))=true→((!(!(Ca (nth a i).2.2 (nth b i).2.2)))=true∧(!(!(Ca (nth a i).2.2 (nth b i).2.2)))=true)∧(0≤(i:Int)∧i < b.length))),(11,((!(!(Ca (nth a i).2.2 (nth b i).2.2)))=true→(!(!(Ca (nth a i).2.2 (nth b i).2.2)))=true)),(12,((!(!(Ca (nth a i).2.2 (nth b i).2.2)))=true→(!(!(Ca (nth a i).2.2 (nth b i).2.2)))=true)),(13,((!(!(Ca (nth a i).2.2 (nth b i).2.2)))=true→(!(!(Ca (nth a i).2.2 (nth b i).2.2)))=true∧(!(!(Ca (nth a i).2.2 (nth b i).2.2)))=true)),(14,((!(Ca (nth a i).2.2 (nth b i).2.2))=false→(!(!(Ca (nth a i).2.2 (nth b i).2.2)))=true)),(18,((!((!(Ca (nth a i).2.2 (nth b i).2.2))||(!decide (((nth a i).1)=((nth b i).1)))))=true→((!((!(Ca (nth a i).2.2 (nth b i).2.2))||(!decide (((nth a i).1)=((nth b i).1)))))=true∧(!((!(Ca (nth a i).2.2 (nth b i).2.2))||(!decide (((nth a i).1)=((nth b i).1)))))=true)∧(0≤(i:Int)∧i < a.length))),(19,((!((!(Ca (nth a i).2.2 (nth b i).2.2))||(!decide (((nth a i).1)=((nth b i).1)))))=true→(!((!(Ca (nth a i).2.2 (nth b i).2.2))||(!decide (((nth a i).1)=((nth b i).1)))))=true)),(20,((!((!(Ca (nth a i).2.2 (nth b i).2.2))||(!decide (((nth a i).1)=((nth b i).1)))))=true→(!((!(Ca (nth a i).2.2 (nth b i).2.2))||(!decide (((nth a i).1)=((nth b i).1)))))=true)),(23,((!((!(Ca (nth a i).2.2 (nth b i).2.2))||(!decide (((nth a i).1)=((nth b i).1)))))=true→((!((!(Ca (nth a i).2.2 (nth b i).2.2))||(!decide (((nth a i).1)=((nth b i).1)))))=true∧(!((!(Ca (nth a i).2.2 (nth b i).2.2))||(!decide (((nth a i).1)=((nth b i).1)))))=true)∧(0≤(i:Int)∧i < b.length))),(24,((!((!(Ca (nth a i).2.2 (nth b i).2.2))||(!decide (((nth a i).1)=((nth b i).1)))))=true→(!((!(Ca (nth a i).2.2 (nth b i).2.2))||(!decide (((nth a i).1)=((nth b i).1)))))=true)),(25,((!((!(Ca (nth a i).2.2 (nth b i).2.2))||(!decide (((nth a i).1)=((nth b i).1)))))=true→(!((!(Ca (nth a i).2.2 (nth b i).2.2))||(!decide (((nth a i).1)=((nth b i).1)))))=true)),(26,((!((!(Ca (nth a i).2.2 (nth b i).2.2))||(!decide (((nth a i).1)=((nth b i).1)))))=true→(!((!(Ca (nth a i).2.2 (nth b i).2.2))||(!decide (((nth a i).1)=((nth b i).1)))))=true∧(!((!(Ca (nth a i).2.2 (nth b i).2.2))||(!decide (((nth a i).1)=((nth b i).1)))))=true)),(27,(((!(Ca (nth a i).2.2 (nth b i).2.2))||(!decide (((nth a i).1)=((nth b i).1))))=false→(!((!(Ca (nth a i).2.2 (nth b i).2.2))||(!decide (((nth a i).1)=((nth b i).1)))))=true))]) [32,33,34,35,36,37,38,39,40,41,42,45,46,47,48,49,50,51,52,53,54,55] [0,1,5,56] [] hk0 v0 (by refine cc _ ?_<|cc _ ?_<|cc _ ?_<|cc _ ?_<|cc _ ?_<|cc _ ?_<|cc _ ?_<|cc _ ?_<|cc _ ?_<|cc _ ?_<|cc _ ?_<|cc _ ?_<|cc _ ?_<|cc _ ?_<|cc _ ?_<|cc _ ?_ c0<;>first|omega|(simp;omega)|(simp;done)|(intros;simp_all;omega)|(intros;simp_all;done)) ?_
   refine A8 (q:=((!(Ca (nth a i).2.2 (nth b i).2.2))||(!decide (((nth a i).1)=((nth b i).1))))||(!(((nth a i).2.1) == ((nth b i).2.1)))) (by kernel_rfl) (fun c3=>?_) (fun c3=>?_)
   ·try simp only[Ao] at c3
    refine Aa [] [4] ?_
    refine Ah ?_
    refine RK wR [(.bool false)] ?_
    exact Same.of_eq (congrArg AV.bool (Q3k (fun q=>by subst q;rw[(Jk _ _).2 rfl] at c3;simp at c3)).symm)
   ·try simp only[Ao] at c3
    refine Ai ?_
    refine Ap ?_
    refine Av 0 [] [0,1,5] [] hk0 v0 (cc 1 (p:=(-9223372036854775808≤(i:Int)+1∧(i:Int)+1≤9223372036854775807)) (by first|omega|(simp;omega)|(simp;done)|(intros;simp_all;omega)|(intros;simp_all;done))<|c0) ?_
    refine⟨by kernel_rfl,_,?_,i+1,?_,?_,(by kernel_rfl),rfl⟩
    ·omega
    ·omega
    ·intro j hj
     by_cases h:j=i
     ·subst h;exact X5q (by simp_all) (by simp_all) ((Jk _ _).1 (by simp_all))
     ·exact f1_2 j (by omega)
  ·refine Bt ?_
   refine Aa [] [4] ?_
   refine Ah ?_
   refine RK wR [(.bool true)] ?_
   exact Same.of_eq (congrArg AV.bool (Q3j (Y8v (by omega) (fun j hj=>f1_2 j (by omega)))).symm)
theorem Q3yv  :
  FnV Tryz.prog 22 [] (.bool true):=by
 refine A5 [.tmp 0] Tryz.func22 rfl Tryz.ntmps22 rfl rfl (fun B F hF=>?_)
 refine Aa [] [] ?_
 refine Af [] [1] [] hk0 (vk 2 13 (a:=(.agg [(.int .i64 1),(.str ([98])),(.int .i64 0),(.str []),.nils])) (b:=(.agg [(.int .i64 owB.kind),(.str owB.name),(.int .i64 owB.op),(.str owB.evr),(.row 5 owB.args.length (depAt owB.args))])) ((Imp.aggs (ImpL.cons Imp.refl (ImpL.cons Imp.refl (ImpL.cons Imp.refl (ImpL.cons Imp.refl (ImpL.cons (Imp.nil.trans (Oa [])) ImpL.nil)))))))<|v0) c0 ?_
 refine Af [] [1,2] [(0,1),(2,15)] hk0 (vk 2 15 (b:=(Ac 5 Ak [owB])) (Imp.list (f:=Ak) rfl)<|vk 4 16 (a:=(.agg [(.str ([97])),(.str ([49,45,49])),(.str ([110,111,97,114,99,104])),(.str []),.nils,(Ac 5 Ak [owB]),.nils,.nils,.nils,.nils,.nils,.nils])) (b:=(Ar owP)) ((Imp.aggs (ImpL.cons Imp.refl (ImpL.cons Imp.refl (ImpL.cons Imp.refl (ImpL.cons Imp.refl (ImpL.cons Imp.nil (ImpL.cons Imp.refl (ImpL.cons Imp.nil (ImpL.cons Imp.nil (ImpL.cons Imp.nil (ImpL.cons Imp.nil (ImpL.cons Imp.nil (ImpL.cons Imp.nil ImpL.nil))))))))))))))<|v0) c0 ?_
 refine Af [] [1,3] [(0,2),(3,20),(5,22)] (hk 5 Uc Q8s<|hk0) (vk 2 19 (a:=(.agg [(.str ([98])),(.str ([49,45,49])),(.str ([110,111,97,114,99,104])),(.str []),.nils,.nils,.nils,.nils,.nils,.nils,.nils,.nils])) (b:=(Ar owQ)) ((Imp.aggs (ImpL.cons Imp.refl (ImpL.cons Imp.refl (ImpL.cons Imp.refl (ImpL.cons Imp.refl (ImpL.cons Imp.nil (ImpL.cons Imp.nil (ImpL.cons Imp.nil (ImpL.cons Imp.nil (ImpL.cons Imp.nil (ImpL.cons Imp.nil (ImpL.cons Imp.nil (ImpL.cons Imp.nil ImpL.nil))))))))))))))<|vk 3 20 (b:=(Ac 12 Ar [owP,owQ])) (Imp.list (f:=Ar) rfl)<|vk 4 21 (a:=(.agg [(.str ([109,97,105,110])),(.int .i64 0),(.bool false),(Ac 12 Ar [owP,owQ])])) (b:=(.agg [(.str owR.name),(.int .i64 owR.prio),(.bool owR.inst),(Ac 12 Ar owR.pkgs)])) ((Imp.aggs (ImpL.cons Imp.refl (ImpL.cons Imp.refl (ImpL.cons Imp.refl (ImpL.cons Imp.refl ImpL.nil))))))<|vk 5 22 (b:=(Ac 4 Bf [owR])) (Imp.list (f:=Bf) rfl)<|v0) c0 ?_
 refine Ad ?_
 refine Aa [] [1,3,27] ?_
 refine Eh (by kernel_rfl) ?_
 refine Ai ?_
 refine Af [] [1,3,5,6,7] [(2,30)] (hk 2 (al:=[(.fp (Bm owS)),.nils,(Ag [0,1])]) Qpv (((Rjv owS Yn [] [0,1] (by decide) (by decide)).of_args (ImpL.cons Imp.refl (ImpL.cons Imp.nil (ImpL.cons Imp.refl ImpL.nil)))).to (Same.of_eq (by rw[Q8r])))<|hk0) (vk 2 30 (b:=(Ag [0,1])) (Imp.list (f:=AV.int .i64) rfl)<|v0) c0 ?_
 refine Af [] [1,5,6,7,8,9,10] [(2,37)] (hk 2 (al:=[(.fp (Bm owS)),.nils,(Ag [0])]) Qpv (((Rjv owS Yn [] [0] (by decide) (by decide)).of_args (ImpL.cons Imp.refl (ImpL.cons Imp.nil (ImpL.cons Imp.refl ImpL.nil)))).to (Same.of_eq (by rw[Q8p])))<|hk0) (vk 2 37 (b:=(Ag [0])) (Imp.list (f:=AV.int .i64) rfl)<|v0) c0 ?_
 refine Af [] [1,6,7,8,9,10,11] [(4,45)] (hk 4 X3g ((Q7w [owX,owY] [owX,owY] (by decide)).to (Same.of_eq (congrArg AV.bool (decide_eq_true rfl))))<|hk0) (vk 3 43 (a:=(.agg [(.int .i64 1),(.int .i64 1),(.int .i64 (-1))])) (b:=(.agg [(.int .i64 owX.1),(.int .i64 owX.2.1),(.int .i64 owX.2.2)])) ((Imp.aggs (ImpL.cons Imp.refl (ImpL.cons Imp.refl (ImpL.cons Imp.refl ImpL.nil)))))<|vk 3 44 (a:=(.agg [(.int .i64 1),(.int .i64 0),(.int .i64 (-1))])) (b:=(.agg [(.int .i64 owY.1),(.int .i64 owY.2.1),(.int .i64 owY.2.2)])) ((Imp.aggs (ImpL.cons Imp.refl (ImpL.cons Imp.refl (ImpL.cons Imp.refl ImpL.nil)))))<|vk 4 45 (b:=(Ac 3 A3 [owX,owY])) (Imp.list (f:=A3) rfl)<|v0) c0 ?_
 refine Af [] [6,7,8,10,11,12] [(4,50)] (hk 4 X3ev ((Q63 [owK] [owK] (by decide) (by simp;decide) (by simp;decide)).to (Same.of_eq (congrArg AV.bool (Q3j rfl))))<|hk0) (vk 3 49 (a:=(.agg [(.int .i64 0),(.bool false),(.int .i64 owB.kind),(.str owB.name),(.int .i64 owB.op),(.str owB.evr),(.row 5 owB.args.length (depAt owB.args))])) (b:=(.agg [(.int .i64 owK.1),(.bool owK.2.1),(.int .i64 owK.2.2.kind),(.str owK.2.2.name),(.int .i64 owK.2.2.op),(.str owK.2.2.evr),(.row 5 owK.2.2.args.length (depAt owK.2.2.args))])) ((Imp.aggs (ImpL.cons Imp.refl (ImpL.cons Imp.refl (ImpL.cons Imp.refl (ImpL.cons Imp.refl (ImpL.cons Imp.refl (ImpL.cons Imp.refl (ImpL.cons Imp.refl ImpL.nil)))))))))<|vk 4 50 (b:=(Ac 7 B1 [owK])) (Imp.list (f:=B1) rfl)<|v0) c0 ?_
 obtain⟨b1,hb1⟩:∃b,b=(decide ((([]:List Ck).length:Int)=0)):=⟨_,rfl⟩
 obtain⟨b2,hb2⟩:∃b,b=((b1&&true)&&(decide (([(1,0,-1)].length:Int)=1))):=⟨_,rfl⟩
 refine Af (CS:=[(12,(b1=true→b1=true)),(13,(b1=true→b1=true)),(16,((b1&&true)=true→(b1&&true)=true)),(17,((b1&&true)=true→(b1&&true)=true)),(18,((b1&&true)=true→(b1&&true)=true)),(21,(b2=true→b2=true))]) [63,64,67,68,69,72] [0] [] hk0 (vk 10 61 (a:=.bool (decide ((([]:List Ck).length:Int)=0))) (b:=.bool b1) (Imp.of_eq (by rw[hb1]))<|vk 19 70 (a:=.bool ((b1&&true)&&(decide (([(1,0,-1)].length:Int)=1)))) (b:=.bool b2) (Imp.of_eq (by rw[hb2]))<|v0) (by refine cc _ ?_<|cc _ ?_<|cc _ ?_<|cc _ ?_<|cc _ ?_<|cc _ ?_ c0<;>first|omega|(simp;omega)|(simp;done)|(intros;simp_all;omega)|(intros;simp_all;done)) ?_
 refine Ah ?_
 refine RK wR [(.bool (b2&&true))] ?_
 subst hb2 hb1
 exact Same.of_eq (by first|rfl|(simp only[An];simp_all))
end Sv
end
section
open Go Go.RowKit
namespace Sv
def Ef (i:Nat):List UInt8:=if i < 10 then [UInt8.ofNat (48+i)] else [UInt8.ofNat (48+i / 10),UInt8.ofNat (48+i % 10)]
def pkN (i:Nat):List UInt8:=112::Ef i
def nxC (n:Nat) (ring:Bool) (i:Nat):List DepT:=if i+1 < n∨ring=true then [Bw (pkN ((i+1) % n))] else []
def pkG (i:Nat) (a b:List DepT):PkgT:=⟨pkN i,[49],[110,111,97,114,99,104],[],[],a,b,[],[],[],[],[]⟩
def pkC (n:Nat) (ring pre:Bool) (i:Nat):PkgT:=pkG i (if pre=true then [] else nxC n ring i) (if pre=true then nxC n ring i else [])
def Ed (n:Nat) (ring pre:Bool):RepoT:=⟨[109,97,105,110],0,false,(List.range n).map (pkC n ring pre)⟩
def stC (n:Nat) (ring pre:Bool):PoolT:=(Aq (Am 1) [Ed n ring pre]).1
theorem Q8b:((List.range 41).all fun i=>Bq (pkN i)&&decide (Ct (Bw (pkN i))=0)&&decide (C0 (pkG 0 [Bw (pkN i)] [])=0)&&decide (C0 (pkG 0 [] [Bw (pkN i)])=0))=true:=by kernel_rfl
theorem Q8d:((List.range 41).all fun i=>(List.range 41).all fun j=>Nat.beq i j||!decide (pkN i=pkN j))=true:=by kernel_rfl
theorem Q8c {i j:Nat} (hi:i < 41) (hj:j < 41) (h:pkN i=pkN j):i=j:=by
  have h1:=List.all_eq_true.1 (List.all_eq_true.1 Q8d i (by simpa using hi)) j (by simpa using hj)
  simp only[Bool.or_eq_true,Bool.not_eq_true',decide_eq_false_iff_not] at h1
  rcases h1 with h1|h1
  · exact Nat.eq_of_beq_eq_true h1
  · exact absurd h h1
theorem Pnv {i:Nat} (hi:i < 41):Bq (pkN i)=true∧Ct (Bw (pkN i))=0∧C0 (pkG 0 [Bw (pkN i)] [])=0∧C0 (pkG 0 [] [Bw (pkN i)])=0:=by
  have h:=List.all_eq_true.1 Q8b i (by simpa using hi)
  simp only[Bool.and_eq_true,decide_eq_true_eq] at h
  exact⟨h.1.1.1,h.1.1.2,h.1.2,h.2⟩
theorem Q8e {i:Nat} {a b:List DepT} (hi:i < 41) (h:C0 (pkG 0 a b)=0):C0 (pkG i a b)=0:=by
  have h1:=(Pnv hi).1
  have h0:=(Pnv (i:=0) (by omega)).1
  unfold C0 at h ⊢
  rw[show(pkG 0 a b).name=pkN 0 from rfl,h0] at h
  rw[show(pkG i a b).name=pkN i from rfl,h1]
  exact h
theorem Q8g {n i:Nat} {ring pre:Bool} (hn:n≤41) (hi:i < n):C0 (pkC n ring pre i)=0:=by
  refine Q8e (by omega) ?_
  have hk:=Pnv (i:=(i+1) % n) (by have:=Nat.mod_lt (i+1) (show 0 < n by omega);omega)
  have h0:C0 (pkG 0 [] [])=0:=by kernel_rfl
  cases pre
  · show C0 (pkG 0 (nxC n ring i) [])=0
    unfold nxC;split
    · exact hk.2.2.1
    · exact h0
  · show C0 (pkG 0 [] (nxC n ring i))=0
    unfold nxC;split
    · exact hk.2.2.2
    · exact h0
section
variable {n : Nat} {ring pre : Bool}
theorem Q7iv (hn:n≤41):Cj ⟨Am 1,[],[]⟩ (Ed n ring pre)=0:=by
  have h1:Bq (Ed n ring pre).name=true:=by show Bq [109,97,105,110]=true;kernel_rfl
  have hl:(Ed n ring pre).pkgs.length=n:=by unfold Ed;simp
  unfold Cj
  rw[if_neg (by simp[h1]),if_neg (by simp),if_neg (by rw[hl];simp;omega)]
  refine T0 fun j hj=>?_
  rw[hl] at hj
  rw[show nth (Ed n ring pre).pkgs j=pkC n ring pre j by unfold Ed;simp[nth,hj]]
  exact Q8g hn hj
theorem Wtv (hn:n≤41):stC n ring pre=⟨Am 1,[Ed n ring pre],(List.range n).map fun i=>(pkC n ring pre i,(0:Int))⟩:=by
  show Cd ⟨Am 1,[],[]⟩ (Ed n ring pre)=_
  unfold Cd
  rw[if_pos (Q7iv hn)]
  unfold Ax
  rw[List.take_length]
  show PoolT.mk _ _ _=_
  simp[Ed]
theorem O3v (hn:n≤41):(stC n ring pre).all.length=n:=by rw[Wtv hn];simp
theorem R2v (hn:n≤41) {i:Nat} (hi:i < n):(nth (stC n ring pre).all i).1=pkC n ring pre i:=by rw[Wtv hn];simp[nth,hi]
theorem Q9xv (h2:2≤n) (i:Nat):(i+1) % n < n:=Nat.mod_lt _ (by omega)
theorem Zlv (hn:n≤41) {j:Nat} (hj:j < n) {x:Int}:x∈F6 Ab (stC n ring pre) (Bw (pkN j)) false↔x=(j:Int):=by
  rw[Q92,O3v hn]
  have hp:∀i,i < n→H0 i (nth (stC n ring pre).all i).1=[(pkN i,⟨i,true,2,[49]⟩)]:=fun i hi=>by
    rw[R2v hn hi];rfl
  constructor
  · rintro⟨i,hi,rfl,q,hq,h1,_⟩
    rw[hp i hi,List.mem_singleton] at hq
    subst hq
    rw[Q8c (by omega) (by omega) (show pkN i=pkN j from h1)]
  · rintro rfl
    refine⟨j,hj,rfl,(pkN j,⟨j,true,2,[49]⟩),by rw[hp j hj];simp,rfl,?_⟩
    unfold Ix
    rw[X2e]
    rfl
theorem X0dv (hn:n≤41) {j:Nat} (hj:j < n) {s:List Int} (hs:∀x∈s,0≤x∧x < n):(Cf Ab (stC n ring pre) (Bw (pkN j)) s).1=decide ((j:Int)∈s):=by
  have hf:¬s.any (fun id=>decide (id < 0)||decide (((stC n ring pre).all.length:Int)≤id))=true:=by
    rw[O3v hn]
    simp only[List.any_eq_true,Bool.or_eq_true,decide_eq_true_eq,not_exists,not_and]
    intro x hx h
    have:=hs x hx
    omega
  unfold Cf
  rw[if_pos (Pnv (by omega)).2.1,if_neg hf]
  obtain⟨k,hk⟩:∃k,(Bw (pkN j)).size=k+1:=⟨(Bw (pkN j)).size-1,by have:=E1 (Bw (pkN j));omega⟩
  rw[hk]
  have h1:(Bw (pkN j)).kind=1:=rfl
  have hm:Co Ab (stC n ring pre) s (k+1) (Bw (pkN j))=s.any fun id=>Dp Ab (stC n ring pre) (k+1) (Bw (pkN j)) id:=by
    unfold Co;rw[if_neg (by omega),if_neg (by omega),if_neg (by omega)]
  show Co _ _ _ _ _=_
  rw[hm,Bool.eq_iff_iff,List.any_eq_true,decide_eq_true_eq]
  have ha:∀id,Dp Ab (stC n ring pre) (k+1) (Bw (pkN j)) id=true↔id=(j:Int):=fun id=>by
    unfold Dp
    rw[if_pos h1,List.any_eq_true]
    constructor
    · rintro⟨x,hx,h⟩
      rw[of_decide_eq_true h];exact(Zlv hn hj).1 hx
    · rintro rfl
      exact⟨_,(Zlv hn hj).2 rfl,by simp⟩
  constructor
  · rintro⟨x,hx,h⟩
    rw[(ha x).1 h] at hx;exact hx
  · exact fun h=>⟨_,h,(ha _).2 rfl⟩
def Fp (n:Nat) (ring:Bool) (th:List Int) (i:Nat):Bool:=(decide (i+1 < n)||ring)&&!decide ((((i+1) % n:Nat):Int)∈th)
theorem Q0bv (hn:n≤41) (h2:2≤n) {th:List Int} (ht:∀x∈th,0≤x∧x < n) {i:Nat} (hi:i < n):A0 Ab (stC n ring pre) th i (nxC n ring i)=if Fp n ring th i=true then nxC n ring i else []:=by
  have hs:∀x∈Aw th [(i:Int)],0≤x∧x < n:=fun x hx=>by
    rcases unionZ_mem.1 hx with h|h
    · exact ht x h
    · have:x=(i:Int):=by simpa using h
      omega
  have hne:(((i+1) % n:Nat):Int)≠(i:Int):=by
    by_cases h:i+1 < n
    · rw[Nat.mod_eq_of_lt h];omega
    · rw[show i+1=n by omega,Nat.mod_self];omega
  have hm:=X0dv (ring:=ring) (pre:=pre) hn (Q9xv h2 i) hs
  have hu:(((i+1) % n:Nat):Int)∈Aw th [(i:Int)]↔(((i+1) % n:Nat):Int)∈th:=by
    rw[unionZ_mem,List.mem_singleton]
    exact⟨fun h=>h.resolve_right hne,.inl⟩
  unfold A0 nxC Fp
  by_cases hc:i+1 < n∨ring=true
  · rw[if_pos hc]
    have hb:(decide (i+1 < n)||ring)=true:=by simpa using hc
    by_cases hk:(((i+1) % n:Nat):Int)∈th
    · rw[List.filter_cons_of_neg (by rw[hm,decide_eq_true (hu.2 hk)];simp),if_neg (by rw[decide_eq_true hk];simp)];rfl
    · rw[List.filter_cons_of_pos (by rw[hm,decide_eq_false (fun q=>hk (hu.1 q))];simp),if_pos (by simp only[hb,Bool.true_and,decide_eq_false hk,Bool.not_false])];rfl
  · rw[if_neg hc]
    simp
theorem Q74v (hn:n≤41) {i:Nat} (hi:i < n):Bl (stC n ring pre) (i:Int)=if pre=true then nxC n ring i else []:=by
  unfold Bl;rw[show((i:Nat):Int).toNat=i from rfl,R2v hn hi];rfl
theorem Q7gv (hn:n≤41) {i:Nat} (hi:i < n):Bu (stC n ring pre) (i:Int)=if pre=true then [] else nxC n ring i:=by
  unfold Bu;rw[show((i:Nat):Int).toNat=i from rfl,R2v hn hi];rfl
theorem Y6 {th:List Int} {i:Nat} (h:Fp n ring th i=true):nxC n ring i=[Bw (pkN ((i+1) % n))]:=by
  unfold Fp at h
  simp only[Bool.and_eq_true,Bool.or_eq_true,decide_eq_true_eq] at h
  unfold nxC;rw[if_pos h.1]
theorem Lsv (hn:n≤41) (h2:2≤n) {th:List Int} (ht:∀x∈th,0≤x∧x < n) {i:Nat} (hi:i < n):A0 Ab (stC n ring pre) th i (Bl (stC n ring pre) i)=if pre=true∧Fp n ring th i=true then [Bw (pkN ((i+1) % n))] else []:=by
  rw[Q74v hn hi]
  cases pre
  · rw[if_neg (by simp),if_neg (by simp)];rfl
  · rw[if_pos rfl,Q0bv hn h2 ht hi]
    by_cases h:Fp n ring th i=true
    · rw[if_pos h,if_pos ⟨rfl,h⟩,Y6 h]
    · rw[if_neg h,if_neg (fun q=>h q.2)]
theorem Ngv (hn:n≤41) (h2:2≤n) {th:List Int} (ht:∀x∈th,0≤x∧x < n) {i:Nat} (hi:i < n):A0 Ab (stC n ring pre) th i (Bu (stC n ring pre) i)=if pre=false∧Fp n ring th i=true then [Bw (pkN ((i+1) % n))] else []:=by
  rw[Q7gv hn hi]
  cases pre
  · rw[if_neg (by simp),Q0bv hn h2 ht hi]
    by_cases h:Fp n ring th i=true
    · rw[if_pos h,if_pos ⟨rfl,h⟩,Y6 h]
    · rw[if_neg h,if_neg (fun q=>h q.2)]
  · rw[if_pos rfl,if_neg (by simp)];rfl
end
section
variable {m : Ez} {st : PoolT} {th : List Int}
theorem Zd {x:Int} (hp:A0 m st th x (Bl st x)=[]) (hr:A0 m st th x (Bu st x)=[]):∀(u:List Int) (b:Int) (h:Bool),(∀y∈u,¬A0 m st th y (Bl st y)=[]∨¬A0 m st th y (Bu st y)=[])→Dj m st th (u++[x]) b h=x
  |[],b,h,_=>by rw[List.nil_append,Dj,hp,hr,if_neg (by simp),if_pos (by simp)]
  |y::u,b,h,hu=>by
    have ih:=fun b h=>Zd hp hr u b h fun z hz=>hu z (by simp[hz])
    rw[List.cons_append,Dj]
    split
    · exact ih _ _
    · rename_i h1
      rw[if_neg]
      · exact ih _ _
      · rw[List.length_eq_zero_iff]
        rcases hu y (by simp) with q|q
        · exact absurd (List.length_pos_iff.2 q) h1
        · exact q
theorem Zf:∀(u:List Int) (b:Int) (h:Bool),(∀y∈u,¬A0 m st th y (Bl st y)=[])→Dj m st th u b h=b
  |[],b,h,_=>rfl
  |y::u,b,h,hu=>by
    rw[Dj,if_pos (List.length_pos_iff.2 (hu y (by simp)))]
    exact Zf u b h fun z hz=>hu z (by simp[hz])
theorem Ze:∀(u:List Int) (b:Int),(∀y∈u,¬A0 m st th y (Bl st y)=[]∨¬A0 m st th y (Bu st y)=[])→Dj m st th u b true=b
  |[],b,_=>rfl
  |y::u,b,hu=>by
    have ih:=Ze u b fun z hz=>hu z (by simp[hz])
    rw[Dj]
    split
    · exact ih
    · rename_i h1
      rw[if_neg,if_pos rfl]
      · exact ih
      · rw[List.length_eq_zero_iff]
        rcases hu y (by simp) with q|q
        · exact absurd (List.length_pos_iff.2 q) h1
        · exact q
theorem Q9vv {x:Int} {r:List Int} (h:(∀y∈x::r,¬A0 m st th y (Bl st y)=[])∨(A0 m st th x (Bl st x)=[]∧∀y∈x::r,¬A0 m st th y (Bu st y)=[])):Dr m st th (x::r)=x:=by
  unfold Dr
  rw[show nth (x::r) 0=x from rfl]
  rcases h with h|⟨h1,h2⟩
  · exact Zf _ _ _ h
  · rw[Dj,if_neg (by simp[h1]),if_neg (by simpa using h2 x (by simp)),if_neg (by simp)]
    exact Ze _ _ fun y hy => .inr (h2 y (by simp[hy]))
end
def upI (lo c:Nat):List Int:=(List.range c).map fun (i:Nat)=>((lo+i:Nat):Int)
def inC (i:Int):Bc:=(1,i,-1)
theorem Rpv {lo c:Nat}:upI lo (c+1)=upI lo c++[((lo+c:Nat):Int)]:=by unfold upI;rw[List.range_succ,List.map_append];rfl
theorem upI_mem {lo c:Nat} {x:Int}:x∈upI lo c↔(lo:Int)≤x∧x < ((lo+c:Nat):Int):=by
  unfold upI
  rw[List.mem_map]
  constructor
  · rintro⟨i,hi,rfl⟩
    have:=List.mem_range.1 hi
    omega
  · intro h
    exact⟨(x-lo).toNat,List.mem_range.2 (by omega),by omega⟩
theorem Ik (lo:Nat):∀c:Nat,Cq (upI lo c)
  |0=>trivial
  |c+1=>by
    rw[Rpv]
    exact Sf (Ik lo c) fun y hy=>(upI_mem.1 hy).2
theorem J9v {lo c:Nat}:(upI lo c).length=c:=by unfold upI;simp
theorem Ovv {lo c:Nat}:upI lo (c+1)=(lo:Int)::upI (lo+1) c:=by
  refine Kf (Ik _ _) ⟨fun y hy=>by have:=(upI_mem.1 hy).1;omega,Ik _ _⟩ fun x=>?_
  rw[List.mem_cons,upI_mem,upI_mem]
  omega
theorem Zqv {c k:List Int} {b:Int} (hk:Cq k) (h:∀x,x∈k↔x∈c∧x≠b):Ae c [b]=k:=Kf (Fm _ _) hk fun x=>by rw[minusZ_mem,h,List.mem_singleton]
section
variable {n : Nat} {ring pre : Bool}
theorem Q2tv {b:Nat} (hb:b < n):Dk ((upI 0 n).map inC) (b:Int)=[inC b]:=by
  unfold Dk
  rw[List.filter_map,List.filter_map,show ofB (b:Int)∘inC=fun i=>decide (i=(b:Int)) from rfl,T4 (Ik 0 n) (upI_mem.2 (by omega)),show Cu (b:Int)∘inC=fun _=>false from rfl,List.filter_eq_nil_iff.2 (by simp)]
  rfl
theorem X5p (hn:n≤41) (h2:2≤n) {th:List Int} (ht:∀x∈th,0≤x∧x < n) {i:Nat} (hi:i < n) (hl:Fp n ring th i=false) (p:Int):Dm Ab (stC n ring pre) th i p=[]:=by
  unfold Dm
  rw[Lsv hn h2 ht hi,Ngv hn h2 ht hi,if_neg (by simp[hl]),if_neg (by simp[hl])];rfl
theorem Uuv (hn:n≤41) (h2:2≤n) {lo:Nat} (hlo:lo=0∧ring=false∨lo=1):∀(c:Nat) (o:List Bc) (k:List Ck),lo+c≤n→(∀x,x∈Aj [] o↔(0≤x∧x < lo)∨(((lo+c:Nat):Int)≤x∧x < n))→Dd Ab (stC n ring pre) ((upI 0 n).map inC) [] c (upI lo c) o k=(o++(upI lo c).reverse.map inC,k)
  |0,o,k,_,_=>by rw[show upI lo 0=[] from rfl,Psv];simp
  |c+1,o,k,hc,ho=>by
    have ht:∀x∈Aj [] o,0≤x∧x < (n:Int):=fun x hx=>by
      have:=(ho x).1 hx
      omega
    have hx:Fp n ring (Aj [] o) (lo+c)=false:=by
      unfold Fp
      by_cases h:lo+c+1 < n
      · rw[Nat.mod_eq_of_lt h,decide_eq_true ((ho _).2 (.inr (by omega)))];simp
      · rcases hlo with⟨_,hr⟩|h1
        · rw[decide_eq_false h,hr];rfl
        · rw[show lo+c+1=n by omega,Nat.mod_self,decide_eq_true ((ho _).2 (.inl (by omega)))];simp
    have hu:∀y∈upI lo c,¬A0 Ab (stC n ring pre) (Aj [] o) y (Bl (stC n ring pre) y)=[]∨¬A0 Ab (stC n ring pre) (Aj [] o) y (Bu (stC n ring pre) y)=[]:=fun y hy=>by
      have hy:=upI_mem.1 hy
      obtain⟨t,rfl⟩:∃t:Nat,y=(t:Int):=⟨y.toNat,by omega⟩
      have hl:Fp n ring (Aj [] o) t=true:=by
        unfold Fp
        rw[decide_eq_true (by omega:t+1 < n),Nat.mod_eq_of_lt (by omega),decide_eq_false (fun q=>by have:=(ho _).1 q;omega)];rfl
      rw[Lsv hn h2 ht (by omega),Ngv hn h2 ht (by omega)]
      cases pre
      · exact .inr (by rw[if_pos ⟨rfl,hl⟩];simp)
      · exact .inl (by rw[if_pos ⟨rfl,hl⟩];simp)
    have hnx:Dr Ab (stC n ring pre) (Aj [] o) (upI lo (c+1))=((lo+c:Nat):Int):=by
      unfold Dr
      rw[Rpv]
      exact Zd (by rw[Lsv hn h2 ht (by omega),if_neg (by simp[hx])]) (by rw[Ngv hn h2 ht (by omega),if_neg (by simp[hx])]) _ _ _ hu
    have hmi:Ae (upI lo (c+1)) [((lo+c:Nat):Int)]=upI lo c:=Zqv (Ik lo c) fun x=>by
      rw[upI_mem,upI_mem];omega
    rw[Kkv (by rw[Ovv];simp) (by rw[J9v];omega),hnx,hmi,Q2tv (by omega),X5p hn h2 ht (by omega) hx,Nat.add_sub_cancel,List.append_nil]
    rw[Uuv hn h2 hlo c _ k (by omega) fun x=>?_]
    · rw[Rpv];simp
    · rw[Vj,show Gv (Aj [] o) (inC ((lo+c:Nat):Int))=Aw (Aj [] o) [((lo+c:Nat):Int)] from rfl,unionZ_mem,ho,List.mem_singleton]
      omega
theorem Q6b (hn:n≤41):Al Ab (stC n ring pre) [] (upI 0 n)=((upI 0 n).map inC,0):=by
  have h1:Ae (upI 0 n) []=upI 0 n:=Kf (Fm _ _) (Ik 0 n) fun x=>by rw[minusZ_mem];simp
  have h2:Ae [] (upI 0 n)=[]:=O9
  have h3:Aw (upI 0 n) []=upI 0 n:=Kf (M2 _ _) (Ik 0 n) fun x=>by rw[unionZ_mem];simp
  rw[Jg (by simp) (fun x hx=>by rw[O3v hn];have:=upI_mem.1 hx;omega)]
  unfold Cm
  rw[h1,h2,h3]
  refine congrArg (fun l=>(l,(0:Int))) (List.map_congr_left fun x hx=>?_)
  unfold Bs
  rw[if_pos hx]
  rfl
def Fl (n:Nat) (ring pre:Bool):List Bc × List Ck × Int:=if ring=true then (inC 0::(upI 1 (n-1)).reverse.map inC,[(0,pre,Bw (pkN 1))],0) else ((upI 0 n).reverse.map inC,[],0)
theorem Q8z (hn:n≤41) (h2:2≤n):C7 Ab (stC n ring pre) [] (upI 0 n)=Fl n ring pre:=by
  have h1:Ae (upI 0 n) []=upI 0 n:=Kf (Fm _ _) (Ik 0 n) fun x=>by rw[minusZ_mem];simp
  have he:((upI 0 n).map inC).filter Cr=[]:=by rw[List.filter_map,show Cr∘inC=fun _=>false from rfl,List.filter_eq_nil_iff.2 (by simp)];rfl
  have ha:Aj [] []=[]:=O9
  unfold C7 Fl
  rw[Q6b hn,if_neg (by simp),h1,J9v]
  show((Dd Ab (stC n ring pre) ((upI 0 n).map inC) [] n (upI 0 n) [] []).1++((upI 0 n).map inC).filter Cr,_,_)=_
  rw[he,List.append_nil]
  by_cases hr:ring=true
  · subst hr
    rw[if_pos rfl]
    obtain⟨c,rfl⟩:∃c,n=c+1:=⟨n-1,by omega⟩
    have ht:∀x∈Aj [] [],0≤x∧x < ((c+1:Nat):Int):=by rw[ha];simp
    have hl:∀t,Fp (c+1) true (Aj [] []) t=true:=fun t=>by unfold Fp;rw[ha];simp
    have hnx:Dr Ab (stC (c+1) true pre) (Aj [] []) (upI 0 (c+1))=((0:Nat):Int):=by
      rw[Ovv]
      refine Q9vv ?_
      rw[←Ovv]
      have hall:∀y∈upI 0 (c+1),∃t:Nat,y=(t:Int)∧t < c+1:=fun y hy=>by
        have:=upI_mem.1 hy
        exact⟨y.toNat,by omega,by omega⟩
      cases pre
      · refine .inr ⟨by rw[Lsv hn h2 ht (by omega),if_neg (by simp)],fun y hy=>?_⟩
        obtain⟨t,rfl,h⟩:=hall y hy
        rw[Ngv hn h2 ht h,if_pos ⟨rfl,hl t⟩];simp
      · refine .inl fun y hy=>?_
        obtain⟨t,rfl,h⟩:=hall y hy
        rw[Lsv hn h2 ht h,if_pos ⟨rfl,hl t⟩];simp
    have hmi:Ae (upI 0 (c+1)) [((0:Nat):Int)]=upI 1 c:=Zqv (Ik 1 c) fun x=>by
      rw[upI_mem,upI_mem];omega
    have hb:Dm Ab (stC (c+1) true pre) (Aj [] []) ((0:Nat):Int) (([]:List Bc).length:Int)=[(0,pre,Bw (pkN 1))]:=by
      unfold Dm
      rw[Lsv hn h2 ht (by omega),Ngv hn h2 ht (by omega),Nat.mod_eq_of_lt (by omega)]
      cases pre
      · rw[if_neg (by simp),if_pos ⟨rfl,hl 0⟩];rfl
      · rw[if_pos ⟨rfl,hl 0⟩,if_neg (by simp)];rfl
    rw[Kkv (by rw[Ovv];simp) (by rw[J9v];omega),hnx,hmi,Q2tv (by omega),hb,List.nil_append,List.nil_append,Nat.add_sub_cancel]
    rw[Uuv hn h2 (.inr rfl) c _ _ (by omega) fun x=>?_]
    · rfl
    · rw[show Aj [] [inC ((0:Nat):Int)]=Aw (Ce []) [((0:Nat):Int)] from rfl,unionZ_mem,O9]
      simp
      omega
  · rw[if_neg hr]
    have hr:ring=false:=by simpa using hr
    subst hr
    rw[Uuv hn h2 (.inl ⟨rfl,rfl⟩) n [] [] (by omega) fun x=>by rw[ha];simp]
    rfl
theorem Q82 {i:Nat} (hi:i < n):nth (Fl n false pre).1 i=inC ((n-1-i:Nat):Int):=by
  show nth ((upI 0 n).reverse.map inC) i=_
  rw[El (by simp[J9v,hi])]
  simp[upI]
theorem Q80:(Fl n ring pre).1.length=n∨n=0:=by
  unfold Fl
  split
  · rcases Nat.eq_zero_or_pos n with h|h
    · exact .inr h
    · exact .inl (by simp[J9v];omega)
  · exact .inl (by simp[J9v])
theorem Q81 (h2:2≤n):nth (Fl n true pre).1 (n-1)=inC 1:=by
  obtain⟨c,rfl⟩:∃c,n=c+2:=⟨n-2,by omega⟩
  show nth (inC 0::(upI 1 (c+1)).reverse.map inC) (c+1)=_
  rw[El (by simp[J9v])]
  simp[upI]
end
end Sv
end
section
open Go Go.RowKit
namespace Sv
attribute [local irreducible] SW SO Bn
set_option maxHeartbeats 400000
set_option maxRecDepth 100000
theorem X3qv:Au Tryz.prog 182:=Ay Tryz.func182 (by kernel_rfl) rfl
theorem X37v:Au Tryz.prog 144:=Ay Tryz.func144 (by kernel_rfl) rfl
theorem X2vv:Au Tryz.prog 90:=Ay Tryz.func90 (by kernel_rfl) rfl
theorem Q10v:Au Tryz.prog 36:=Ay Tryz.func36 (by kernel_rfl) rfl
def digitsS:List UInt8:=[48,49,50,51,52,53,54,55,56,57,97,98,99,100,101,102,103,104,105,106,107,108,109,110,111,112,113,114,115,116,117,118,119,120,121,122]
def smallS:List UInt8:=(List.range 100).flatMap fun i=>[UInt8.ofNat (48+i / 10),UInt8.ofNat (48+i % 10)]
theorem Q0h:((List.range 100).all fun i=>decide (Ef i=if i < 10 then ((digitsS.take ((i:Int)+1).toNat).drop ((i:Int)).toNat) else ((smallS.take ((i:Int)*2+2).toNat).drop ((i:Int)*2).toNat)))=true:=by kernel_rfl
theorem X1d {i:Nat} (h:i < 10):Ef i=(digitsS.take ((i:Int)+1).toNat).drop ((i:Int)).toNat:=by
  have:=of_decide_eq_true (List.all_eq_true.1 Q0h i (List.mem_range.2 (by omega)))
  rw[this,if_pos h]
theorem X1c {i:Nat} (h:i < 100) (k:¬i < 10):Ef i=(smallS.take ((i:Int)*2+2).toNat).drop ((i:Int)*2).toNat:=by
  have:=of_decide_eq_true (List.all_eq_true.1 Q0h i (List.mem_range.2 h))
  rw[this,if_neg k]
theorem Q6l:digitsS.length=36∧smallS.length=200:=⟨by kernel_rfl,by kernel_rfl⟩
theorem Q6kv (i : Nat) (hi : i < 100) :
    FnV Tryz.prog 182 [(.int .i64 ((i:Int)))] (.str ((Ef i))):=by
  have hl:=Q6l
  refine A5 [.tmp 2] Tryz.func182 rfl Tryz.ntmps182 rfl rfl (fun B F hF=>?_)
  refine Aa [] [0] ?_
  refine Ad ?_
  refine Aa [] [0,4] ?_
  refine A6 (p:=(i:Int) < 10) (by kernel_rfl) (fun c1=>?_) (fun c1=>?_)
  · skip
    refine Af (CS:=[(2,(-9223372036854775808≤(i:Int)+1∧(i:Int)+1≤9223372036854775807)),(3,(0≤(i:Int)∧(i:Int)≤(i:Int)+1∧(i:Int)+1≤([48,49,50,51,52,53,54,55,56,57,97,98,99,100,101,102,103,104,105,106,107,108,109,110,111,112,113,114,115,116,117,118,119,120,121,122].length:Int)))]) [] [2] [] hk0 v0 (by refine cc _ ?_<|cc _ ?_ c0<;>first|omega|(simp;omega)|(simp;done)|(intros;simp_all;omega)|(intros;simp_all;done)) ?_
    refine Ah ?_
    refine RK wR [(.str (([48,49,50,51,52,53,54,55,56,57,97,98,99,100,101,102,103,104,105,106,107,108,109,110,111,112,113,114,115,116,117,118,119,120,121,122].take (i+1)).drop i))] ?_
    refine Same.of_eq (congrArg AV.str ?_)
    rw[X1d (by omega)]
    kernel_rfl
  · skip
    refine Ai ?_
    refine Af (CS:=[(1,(-9223372036854775808≤(i:Int)*2∧(i:Int)*2≤9223372036854775807)),(3,(-9223372036854775808≤(i:Int)*2∧(i:Int)*2≤9223372036854775807)),(4,(-9223372036854775808≤((i:Int)*2)+2∧((i:Int)*2)+2≤9223372036854775807)),(5,(0≤(i:Int)*2∧(i:Int)*2≤((i:Int)*2)+2∧((i:Int)*2)+2≤([48,48,48,49,48,50,48,51,48,52,48,53,48,54,48,55,48,56,48,57,49,48,49,49,49,50,49,51,49,52,49,53,49,54,49,55,49,56,49,57,50,48,50,49,50,50,50,51,50,52,50,53,50,54,50,55,50,56,50,57,51,48,51,49,51,50,51,51,51,52,51,53,51,54,51,55,51,56,51,57,52,48,52,49,52,50,52,51,52,52,52,53,52,54,52,55,52,56,52,57,53,48,53,49,53,50,53,51,53,52,53,53,53,54,53,55,53,56,53,57,54,48,54,49,54,50,54,51,54,52,54,53,54,54,54,55,54,56,54,57,55,48,55,49,55,50,55,51,55,52,55,53,55,54,55,55,55,56,55,57,56,48,56,49,56,50,56,51,56,52,56,53,56,54,56,55,56,56,56,57,57,48,57,49,57,50,57,51,57,52,57,53,57,54,57,55,57,56,57,57].length:Int)))]) [] [2] [] hk0 v0 (by refine cc _ ?_<|cc _ ?_<|cc _ ?_<|cc _ ?_ c0<;>first|omega|(simp;omega)|(simp;done)|(intros;simp_all;omega)|(intros;simp_all;done)) ?_
    refine Ah ?_
    refine RK wR [(.str (([48,48,48,49,48,50,48,51,48,52,48,53,48,54,48,55,48,56,48,57,49,48,49,49,49,50,49,51,49,52,49,53,49,54,49,55,49,56,49,57,50,48,50,49,50,50,50,51,50,52,50,53,50,54,50,55,50,56,50,57,51,48,51,49,51,50,51,51,51,52,51,53,51,54,51,55,51,56,51,57,52,48,52,49,52,50,52,51,52,52,52,53,52,54,52,55,52,56,52,57,53,48,53,49,53,50,53,51,53,52,53,53,53,54,53,55,53,56,53,57,54,48,54,49,54,50,54,51,54,52,54,53,54,54,54,55,54,56,54,57,55,48,55,49,55,50,55,51,55,52,55,53,55,54,55,55,55,56,55,57,56,48,56,49,56,50,56,51,56,52,56,53,56,54,56,55,56,56,56,57,57,48,57,49,57,50,57,51,57,52,57,53,57,54,57,55,57,56,57,57].take ((((i:Int)*2)+2).toNat)).drop (((i:Int)*2).toNat)))] ?_
    refine Same.of_eq (congrArg AV.str ?_)
    rw[X1c hi (by omega)]
    kernel_rfl
theorem X17v (i : Nat) (hi : i < 100) :
    FnV Tryz.prog 144 [(.int .i64 ((i:Int))),(.int .i64 (10))] (.str ((Ef i))):=by
  refine A5 [.tmp 4] Tryz.func144 rfl Tryz.ntmps144 rfl rfl (fun B F hF=>?_)
  refine Aa [] [0,1] ?_
  refine Ad ?_
  refine Aa [] [0,1,11] ?_
  refine Gd (by kernel_rfl) ?_
  refine Ad ?_
  obtain⟨b1,hb1⟩:∃b,b=(decide (0≤(i:Int))):=⟨_,rfl⟩
  refine Af (CS:=[(4,(b1=true→b1=true)),(5,(b1=true→b1=true))]) [15,16] [0,17] [] hk0 (vk 3 14 (a:=.bool (decide (0≤(i:Int)))) (b:=.bool b1) (Imp.of_eq (by rw[hb1]))<|v0) (by refine cc _ ?_<|cc _ ?_ c0<;>first|omega|(simp;omega)|(simp;done)|(intros;simp_all;omega)|(intros;simp_all;done)) ?_
  refine A8 (q:=b1&&(decide ((i:Int) < 100))) (by kernel_rfl) (fun c1=>?_) (fun c1=>?_)
  · skip
    subst hb1
    try simp only[Ao] at c1
    refine Af [] [4] [] (hk 1 X3qv (Q6kv i hi)<|hk0) v0 c0 ?_
    refine Ah ?_
    refine RK wR [(.str ((Ef i)))] ?_
    exact Same.of_eq (by first|rfl|(simp only[An];simp_all))
  · skip
    subst hb1
    try simp only[Ao] at c1
    exfalso;omega
theorem X1e (i : Nat) (hi : i < 100) :
    FnV Tryz.prog 90 [(.int .i64 ((i:Int)))] (.str ((Ef i))):=by
  refine A5 [.tmp 2] Tryz.func90 rfl Tryz.ntmps90 rfl rfl (fun B F hF=>?_)
  refine Aa [] [0] ?_
  refine Af [] [2] [] (hk 1 X37v (X17v i hi)<|hk0) v0 c0 ?_
  refine Ah ?_
  refine RK wR [(.str ((Ef i)))] ?_
  exact Same.of_eq (by first|rfl|(simp only[An];simp_all))
theorem Q0gv (i : Nat) (hi : i < 100) :
    FnV Tryz.prog 36 [(.int .i64 ((i:Int)))] (.str ((Ef i))):=by
  refine A5 [.tmp 2] Tryz.func36 rfl Tryz.ntmps36 rfl rfl (fun B F hF=>?_)
  refine Aa [] [0] ?_
  refine Af [] [2] [] (hk 1 X2vv (X1e i hi)<|hk0) v0 c0 ?_
  refine Ah ?_
  refine RK wR [(.str ((Ef i)))] ?_
  exact Same.of_eq (by first|rfl|(simp only[An];simp_all))
end Sv
end
section
open Go Go.RowKit
namespace Sv
attribute [local irreducible] SW SO Bn
set_option maxHeartbeats 1000000
set_option maxRecDepth 100000
theorem Ujv:Au Tryz.prog 34:=Ay Tryz.func34 (by kernel_rfl) rfl
theorem X3c:Au Tryz.prog 31:=Ay Tryz.func31 (by kernel_rfl) rfl
theorem X3bv:Au Tryz.prog 35:=Ay Tryz.func35 (by kernel_rfl) rfl
theorem X0av {st:PoolT} {d:DepT} {s:List Int} (h:(Cf Ab st d s).1=true):(Cf Ab st d s).2=0:=by
 unfold Cf at h ⊢
 by_cases h1:Ct d=0
 ·rw[if_pos h1] at h ⊢
  by_cases h2:(s.any fun id=>decide (id < 0)||decide ((st.all.length:Int)≤id))=true
  ·rw[if_pos h2] at h;cases h
  ·rw[if_neg h2]
 ·rw[if_neg h1] at h;cases h
theorem X0k {st:PoolT} {s:List Int} {l:List DepT} {i:Nat} (h:i < l.length) (e:(Cf Ab st (nth l i) s).1=false):E2 st s l=false:=by
 unfold E2;rw[List.all_eq_false];exact⟨nth l i,Jov h,by rw[e];simp⟩
theorem X0jv {st:PoolT} {s:List Int} {l:List DepT} (h:∀j,j < l.length→(Cf Ab st (nth l j) s).1=true):E2 st s l=true:=by
 unfold E2;exact all_nth.2 h
theorem Wwv {l:List Ck} {i:Nat} {p:Int} (h:i < l.length) (e:(nth l i).1=p):D5 (l.take (i+1)) p=true∧C6 (l.take (i+1)) p=(C6 (l.take i) p||(nth l i).2.1):=by
 rw[Gg h,som_app.1,som_app.2]
 simp[D5,C6,e]
theorem Wx {l:List Ck} {i:Nat} {p:Int} (h:i < l.length) (e:¬(nth l i).1=p):D5 (l.take (i+1)) p=D5 (l.take i) p∧C6 (l.take (i+1)) p=C6 (l.take i) p:=by
 rw[Gg h,som_app.1,som_app.2]
 simp[D5,C6,e]
theorem X1vv {st:PoolT} {a:List Bc} {p i:Nat} {th:List Int} (h:p≤i) (hi:i < a.length) (e:(Cs (nth a i).1&&E2 st (Cb (nth a i).2.1 th) (Bl st (nth a i).2.1))=true):Iy st a p th=true:=by
 unfold Iy
 rw[List.any_eq_true]
 exact⟨nth a i,by rw[El hi];exact List.mem_drop_iff_getElem.2 ⟨i-p,by omega,by congr 1;omega⟩,e⟩
theorem X1x {st:PoolT} {a:List Bc} {p:Nat} {th:List Int} (h:∀j,p≤j→j < a.length→(Cs (nth a j).1&&E2 st (Cb (nth a j).2.1 th) (Bl st (nth a j).2.1))=false):Iy st a p th=false:=by
 unfold Iy
 rw[List.any_eq_false]
 intro s hs
 obtain⟨j,hj,e⟩:=List.mem_drop_iff_getElem.1 hs
 have:=h (j+p) (by omega) hj
 rw[El hj,show a[j+p]=s from by rw[←e];congr 1;omega] at this
 rw[this];simp
theorem X0yv {l:List Bc} {i:Nat} (h:i < l.length) (e:Cs (nth l i).1=true):Fo (l.take (i+1))=(nth l i).2.1:=by rw[Gg h,Z9,if_pos e]
theorem X0z {l:List Bc} {i:Nat} (h:i < l.length) (e:Cs (nth l i).1=false):Fo (l.take (i+1))=Fo (l.take i):=by rw[Gg h,Z9,if_neg (by simp[e])]
theorem Yw {l:List Bc} {i m:Nat} (h:m=i+1):Imp (.row 3 (m-i) (fun kx=>A3 (nth l (i+kx)))) (Ac 3 A3 [nth l i]):=by
 subst h
 rw[show i+1-i=[nth l i].length by simp]
 exact Imp.row fun q hq=>Imp.of_eq (by have e:q=0:=(by simpa using hq);subst e;rfl)
theorem Tfv (st : PoolT) (hi : IdxOk st) (s : List Int) (hs : s.length ≤ 4611686018427) (l : List DepT) (hll : l.length ≤ 4194304) (hl : ∀ i, i < l.length → (nth l i).size ≤ 4194304) :
  FnV Tryz.prog 34 [(.fp (A4 st)),(Ac 5 Ak l),(Ag s)] (.bool (E2 st s l)):=by
 refine A5 [.tmp 6] Tryz.func34 rfl Tryz.ntmps34 rfl rfl (fun B F hF=>?_)
 refine Aa [] [0,1,2] ?_
 refine Ad ?_
 refine Aa [] [0,1,2,7] ?_
 refine A1 ?_
 refine Bz (fun g y=>∃(i:Nat),i≤l.length∧(∀j,j < i→(Cf Ab st (nth l j) s).1=true)∧y=⟨[(0,(.fp (A4 st))),(1,(Ac 5 Ak l)),(2,(Ag s)),(7,(.int .i64 ((i:Int))))],[],0⟩∧g=l.length-i) [0,1,2,7] 0 _ (by omega) ⟨0,(by omega),(by exact fun j hj=>by omega),(by kernel_rfl),rfl⟩ ?_
 rintro g1 y1 ⟨i,f1_1,f1_2,rfl,rfl⟩
 refine Ad ?_
 refine Aa [] [0,1,2,7,13] ?_
 refine A6 (p:=(i:Int) < (l.length:Int)) (by kernel_rfl) (fun c1=>?_) (fun c1=>?_)
 ·refine Ai ?_
  refine Ad ?_
  refine A1 ?_
  refine Af [] [0,1,2,7,8,9] [] (hk 6 Q2f (Q5f Ab Ti st hi (nth l i) s (hl i (by omega)) (by omega))<|hk0) v0 (cc 3 (p:=(0≤(i:Int)∧i < l.length)) (by first|omega|(simp;omega)|(simp;done)|(intros;simp_all;omega)|(intros;simp_all;done))<|c0) ?_
  obtain⟨b1,hb1⟩:∃b,b=(!((Cf Ab st (nth l i) s).1)):=⟨_,rfl⟩
  refine Af (CS:=[(4,((!b1)=true→(!b1)=true)),(5,(b1=false→(!b1)=true))]) [29,30] [0,1,2,7,31] [] hk0 (vk 3 28 (a:=.bool (!((Cf Ab st (nth l i) s).1))) (b:=.bool b1) (Imp.of_eq (by rw[hb1]))<|v0) (by refine cc _ ?_<|cc _ ?_ c0<;>first|omega|(simp;omega)|(simp;done)|(intros;simp_all;omega)|(intros;simp_all;done)) ?_
  refine A8 (q:=b1||(!decide (((Cf Ab st (nth l i) s).2)=0))) (by kernel_rfl) (fun c2=>?_) (fun c2=>?_)
  ·subst hb1
   try simp only[Ao] at c2
   refine Aa [] [6] ?_
   refine Ah ?_
   refine RK wR [(.bool false)] ?_
   have hm0:(Cf Ab st (nth l i) s).1=false:=by
    cases hq:(Cf Ab st (nth l i) s).1 with
    |false=>rfl
    |true=>have:=X0av hq;simp[hq,this] at c2
   exact Same.of_eq (congrArg AV.bool (X0k (i:=i) (by omega) hm0).symm)
  ·subst hb1
   try simp only[Ao] at c2
   refine Ai ?_
   refine Ap ?_
   refine Av 0 [] [0,1,2,7] [] hk0 v0 (cc 1 (p:=(-9223372036854775808≤(i:Int)+1∧(i:Int)+1≤9223372036854775807)) (by first|omega|(simp;omega)|(simp;done)|(intros;simp_all;omega)|(intros;simp_all;done))<|c0) ?_
   refine⟨by kernel_rfl,_,?_,i+1,?_,?_,(by kernel_rfl),rfl⟩
   ·omega
   ·omega
   ·intro j hj
    by_cases h:j=i
    ·subst h;exact c2.1
    ·exact f1_2 j (by omega)
 ·refine Bt ?_
  refine Aa [] [6] ?_
  refine Ah ?_
  refine RK wR [(.bool true)] ?_
  exact Same.of_eq (congrArg AV.bool (X0jv fun j hj=>f1_2 j (by omega)).symm)
theorem X5r (l : List Ck) (p : Int) (hl : l.length ≤ 4611686018427) :
  FnV Tryz.prog 31 [(Ac 7 B1 l),(.int .i64 p)] (.tup [(.bool (D5 l p)),(.bool (C6 l p))]):=by
 refine A5 [.tmp 4,.tmp 5] Tryz.func31 rfl Tryz.ntmps31 rfl rfl (fun B F hF=>?_)
 refine Aa [] [0,1] ?_
 refine Aa [] [0,1,6] ?_
 refine Aa [] [0,1,6,7] ?_
 refine Ad ?_
 refine Aa [] [0,1,6,7,8] ?_
 refine A1 ?_
 refine Bz (fun g y=>∃(i:Nat),i≤l.length∧y=⟨[(0,(Ac 7 B1 l)),(1,(.int .i64 p)),(6,(.bool (D5 (l.take i) p))),(7,(.bool (C6 (l.take i) p))),(8,(.int .i64 ((i:Int))))],[],0⟩∧g=l.length-i) [0,1,6,7,8] 0 _ (by omega) ⟨0,(by omega),(by kernel_rfl),rfl⟩ ?_
 rintro g1 y1 ⟨i,f1_1,rfl,rfl⟩
 refine Ad ?_
 refine Aa [] [0,1,6,7,8,12] ?_
 refine A6 (p:=(i:Int) < (l.length:Int)) (by kernel_rfl) (fun c1=>?_) (fun c1=>?_)
 ·refine Ai ?_
  refine Ad ?_
  refine A1 ?_
  refine Af [] [0,1,6,7,8,21] [] hk0 v0 (cc 2 (p:=(0≤(i:Int)∧i < l.length)) (by first|omega|(simp;omega)|(simp;done)|(intros;simp_all;omega)|(intros;simp_all;done))<|c0) ?_
  refine A6 (p:=((nth l i).1)=p) (by kernel_rfl) (fun c2=>?_) (fun c2=>?_)
  ·refine Aa [] [0,1,6,7,8] ?_
   refine Ap ?_
   refine Av (CS:=[(4,((!(C6 (l.take i) p))=true→((!(C6 (l.take i) p))=true∧(!(C6 (l.take i) p))=true)∧(0≤(i:Int)∧i < l.length))),(5,((!(C6 (l.take i) p))=true→(!(C6 (l.take i) p))=true)),(6,((!(C6 (l.take i) p))=true→(!(C6 (l.take i) p))=true)),(7,((C6 (l.take i) p)=false→(!(C6 (l.take i) p))=true))]) 0 [24,25,26,27,28] [0,1,6,7,8] [] hk0 v0 (by refine cc _ ?_<|cc _ ?_<|cc _ ?_<|cc _ ?_ c0<;>first|omega|(simp;omega)|(simp;done)|(intros;simp_all;omega)|(intros;simp_all;done)) ?_
   refine Ap ?_
   refine Av 0 [] [0,1,6,7,8] [] hk0 v0 (cc 1 (p:=(-9223372036854775808≤(i:Int)+1∧(i:Int)+1≤9223372036854775807)) (by first|omega|(simp;omega)|(simp;done)|(intros;simp_all;omega)|(intros;simp_all;done))<|c0) ?_
   refine⟨by kernel_rfl,_,?_,i+1,?_,(Eq.trans (b:=(⟨[(0,(Ac 7 B1 l)),(1,(.int .i64 p)),(6,(.bool true)),(7,(.bool ((C6 (l.take i) p)||((nth l i).2.1)))),(8,(.int .i64 ((i:Int)+1)))],[],0⟩:St)) (by kernel_rfl) (by rw[(Wwv (l:=l) (i:=i) (p:=p) (by omega) c2).1,(Wwv (l:=l) (i:=i) (p:=p) (by omega) c2).2]<;>kernel_rfl)),rfl⟩
   ·omega
   ·omega
  ·refine Ai ?_
   refine Ap ?_
   refine Av 0 [] [0,1,6,7,8] [] hk0 v0 (cc 1 (p:=(-9223372036854775808≤(i:Int)+1∧(i:Int)+1≤9223372036854775807)) (by first|omega|(simp;omega)|(simp;done)|(intros;simp_all;omega)|(intros;simp_all;done))<|c0) ?_
   refine⟨by kernel_rfl,_,?_,i+1,?_,(Eq.trans (b:=(⟨[(0,(Ac 7 B1 l)),(1,(.int .i64 p)),(6,(.bool (D5 (l.take i) p))),(7,(.bool (C6 (l.take i) p))),(8,(.int .i64 ((i:Int)+1)))],[],0⟩:St)) (by kernel_rfl) (by rw[(Wx (l:=l) (i:=i) (p:=p) (by omega) c2).1,(Wx (l:=l) (i:=i) (p:=p) (by omega) c2).2]<;>kernel_rfl)),rfl⟩
   ·omega
   ·omega
 ·refine Bt ?_
  refine Aa [] [4,5] ?_
  refine Ah ?_
  refine RK wR [(.bool (D5 (l.take i) p)),(.bool (C6 (l.take i) p))] ?_
  exact Same.of_eq (by simp only[An];rw[List.take_of_length_le (by omega)])
theorem X1w (st : PoolT) (hi : IdxOk st) (a : List Bc) (hin : ∀ x ∈ a, 0 ≤ x.2.1 ∧ x.2.1 < st.all.length) (hal : a.length ≤ 4194304) (p : Nat) (hp : p ≤ a.length) (th : List Int) (hth : th.length ≤ 4194304) :
  FnV Tryz.prog 35 [(.fp (Bm st)),(.fp (A4 st)),(Ac 3 A3 a),(.int .i64 ((p:Int))),(Ag th)] (.bool (Iy st a p th)):=by
 refine A5 [.tmp 10] Tryz.func35 rfl Tryz.ntmps35 rfl rfl (fun B F hF=>?_)
 refine Aa [] [0,1,2,3,4] ?_
 refine Ad ?_
 refine Aa [] [0,1,2,4,11] ?_
 refine A1 ?_
 refine Bz (fun g y=>∃(i:Nat),p≤i∧i≤a.length∧(∀j,p≤j→j < i→(Cs (nth a j).1&&E2 st (Cb (nth a j).2.1 th) (Bl st (nth a j).2.1))=false)∧y=⟨[(0,(.fp (Bm st))),(1,(.fp (A4 st))),(2,(Ac 3 A3 a)),(4,(Ag th)),(11,(.int .i64 ((i:Int))))],[],0⟩∧g=a.length-i) [0,1,2,4,11] 0 _ (by omega) ⟨p,(by omega),(by omega),(by exact fun j h1 h2=>by omega),(by kernel_rfl),rfl⟩ ?_
 rintro g1 y1 ⟨i,f1_1,f1_2,f1_3,rfl,rfl⟩
 refine Ad ?_
 refine Aa [] [0,1,2,4,11,21] ?_
 refine A6 (p:=(i:Int) < (a.length:Int)) (by kernel_rfl) (fun c1=>?_) (fun c1=>?_)
 ·have hai:=hin (nth a i) (Jov (by omega))
  refine Ai ?_
  refine Ad ?_
  refine A1 ?_
  refine Af [] [0,1,2,4,11,12] [] (hk 4 Q12 (Xm (nth a i))<|hk0) v0 (cc 2 (p:=(0≤(i:Int)∧i < a.length)) (by first|omega|(simp;omega)|(simp;done)|(intros;simp_all;omega)|(intros;simp_all;done))<|c0) ?_
  refine Ad ?_
  refine Aa [] [0,1,2,4,11,30] ?_
  refine A8 (q:=!(Cs (nth a i).1)) (by kernel_rfl) (fun c2=>?_) (fun c2=>?_)
  ·try simp only[Ao] at c2
   refine Bt ?_
   refine Ap ?_
   refine Av 0 [] [0,1,2,4,11] [] hk0 v0 (cc 1 (p:=(-9223372036854775808≤(i:Int)+1∧(i:Int)+1≤9223372036854775807)) (by first|omega|(simp;omega)|(simp;done)|(intros;simp_all;omega)|(intros;simp_all;done))<|c0) ?_
   refine⟨by kernel_rfl,_,?_,i+1,?_,?_,?_,(by kernel_rfl),rfl⟩
   ·omega
   ·omega
   ·omega
   ·intro j h1 h2
    by_cases h:j=i
    ·subst h;simp_all
    ·exact f1_3 j h1 (by omega)
  ·try simp only[Ao] at c2
   refine Ai ?_
   refine Af [] [0,1,2,4,11,13] [(13,13)] (hk 6 (al:=[(.fp (Bm st)),(.int .i64 ((nth a i).2.1))]) I3 ((Je st ((nth a i).2.1).toNat (by omega) (hi.2 _ (by omega))).of_args (ImpL.cons Imp.refl (ImpL.cons (Imp.of_eq (congrArg (AV.int .i64) (L6 (by omega)))) ImpL.nil)))<|hk0) v0 (cc 3 (p:=(0≤(i:Int)∧i < a.length)) (by first|omega|(simp;omega)|(simp;done)|(intros;simp_all;omega)|(intros;simp_all;done))<|c0) ?_
   refine C2 [] [0,1,2,4,11,16] [] (hk 9 Ul (Sp th (nth a i).2.1 (by omega))<|hk 10 Ujv (Tfv st hi (Cb (nth a i).2.1 th) (by have:=Ni (nth a i).2.1 th;omega) (Bl st (nth a i).2.1) (Hh hi hai).1 (Hh hi hai).2)<|hk0) v0 (cc 6 (p:=(0≤(i:Int)∧i < a.length)) (by first|omega|(simp;omega)|(simp;done)|(intros;simp_all;omega)|(intros;simp_all;done))<|c0) ?_
   refine Aa [] [0,1,2,4,11,53] ?_
   refine A8 (q:=E2 st (Cb (nth a i).2.1 th) (Bl st (nth a i).2.1)) (by kernel_rfl) (fun c3=>?_) (fun c3=>?_)
   ·try simp only[Ao] at c3
    refine Aa [] [10] ?_
    refine Ah ?_
    refine RK wR [(.bool true)] ?_
    exact Same.of_eq (congrArg AV.bool (X1vv (i:=i) (by omega) (by omega) (by simp_all)).symm)
   ·try simp only[Ao] at c3
    refine Ai ?_
    refine Ap ?_
    refine Av 0 [] [0,1,2,4,11] [] hk0 v0 (cc 1 (p:=(-9223372036854775808≤(i:Int)+1∧(i:Int)+1≤9223372036854775807)) (by first|omega|(simp;omega)|(simp;done)|(intros;simp_all;omega)|(intros;simp_all;done))<|c0) ?_
    refine⟨by kernel_rfl,_,?_,i+1,?_,?_,?_,(by kernel_rfl),rfl⟩
    ·omega
    ·omega
    ·omega
    ·intro j h1 h2
     by_cases h:j=i
     ·subst h;simp_all
     ·exact f1_3 j h1 (by omega)
 ·refine Bt ?_
  refine Aa [] [10] ?_
  refine Ah ?_
  refine RK wR [(.bool false)] ?_
  exact Same.of_eq (congrArg AV.bool (X1x fun j h1 h2=>f1_3 j h1 (by omega)).symm)
theorem orderFinds_ok (l : List RepoT) (hll : l.length ≤ 1048576) (hl : ∀ i, i < l.length → (nth l i).size ≤ 1048576) (rs : List Int) (hrs : rs.length ≤ 1048576) (hbr : ∀ i, i < rs.length → -9223372036854775808 ≤ nth rs i ∧ nth rs i ≤ 9223372036854775807) (ks : List Int) (hks : ks.length ≤ 1048576) (hbk : ∀ i, i < ks.length → -9223372036854775808 ≤ nth ks i ∧ nth ks i ≤ 9223372036854775807) :
  FnV Tryz.prog 6 [(Ac 4 Bf l),(Ag rs),(Ag ks)] (.bool true):=by
 have hl4:∀i,i < l.length→(nth l i).size≤4194304:=fun i hi=>Nat.le_trans (hl i hi) (by decide)
 have hi:=Ve (k:=Am 1) hl4
 have hpl:(Aq (Am 1) l).2.length=(Aq (Am 1) l).1.all.length:=(X5w (Am 1) l).1
 have h200:=hi.1
 have hfl:=Q4k (Aq (Am 1) l).2.length rs
 have htl:=Q4k (Aq (Am 1) l).2.length ks
 have hfi:∀q∈(Cw (Aq (Am 1) l).2.length rs),0≤q∧q < (Aq (Am 1) l).1.all.length:=fun q hq=>by have h:=Q4l hq;rw[hpl] at h;exact h
 have hti:∀q∈(Cw (Aq (Am 1) l).2.length ks),0≤q∧q < (Aq (Am 1) l).1.all.length:=fun q hq=>by have h:=Q4l hq;rw[hpl] at h;exact h
 have hfs:=X2fv hfi hti
 obtain⟨h1,h2⟩:=Sz (m:=Ab) hfi hti
 have h3:=Q83 hfi hti
 have h4:=Q8xv hi hfi hti
 have h0:Aj (Cw (Aq (Am 1) l).2.length rs) []=(Cw (Aq (Am 1) l).2.length rs):=Nc (X6p _ _)
 obtain⟨oa,ob,hor⟩:∃oa ob,C7 Ab (Aq (Am 1) l).1 (Cw (Aq (Am 1) l).2.length rs) (Cw (Aq (Am 1) l).2.length ks)=(oa,ob,0):=⟨_,_,Prod.ext rfl (Prod.ext rfl h2)⟩
 rw[hor] at hfs h3 h4
 have hfs:∀i,i < oa.length→Ji (Aq (Am 1) l).1 oa ob i (Aj (Cw (Aq (Am 1) l).2.length rs) (oa.take i)) (Fo (oa.take i))=true:=hfs
 have hoin:∀x∈oa,0≤x.2.1∧x.2.1 < (Aq (Am 1) l).1.all.length:=h3
 have hlen:oa.length≤200:=h4.1
 have hbl:ob.length≤1677721600:=h4.2.1
 refine A5 [.tmp 6] Tryz.func6 rfl Tryz.ntmps6 rfl rfl (fun B F hF=>?_)
 refine Aa [] [0,1,2] ?_
 refine Af [] [0,1,2,7] [] (hk 0 Q15v Q3yv<|hk0) v0 c0 ?_
 refine Af [] [1,2,7,8,9] [] (hk 1 Uc (Vz 1 l (by omega) hl4)<|hk0) v0 c0 ?_
 refine Af [] [1,2,7,8,9,10] [] (hk 1 Ut (Sr (Aq (Am 1) l).1 hi.1 hi.2)<|hk0) v0 c0 ?_
 refine Ad ?_
 refine Aa [] [1,2,8,9,10,47] ?_
 refine Eh (by kernel_rfl) ?_
 refine Ai ?_
 refine Af [] [2,8,9,10,11] [] (hk 2 Q13 (Xn (Aq (Am 1) l).1 (Aq (Am 1) l).2 rs (by omega) (by omega) hbr)<|hk0) v0 c0 ?_
 refine Af [] [8,10,11,12] [] (hk 2 Q13 (Xn (Aq (Am 1) l).1 (Aq (Am 1) l).2 ks (by omega) (by omega) hbk)<|hk0) v0 c0 ?_
 refine Af [] [8,10,11,13,14,15] [] (hk 3 Qpv ((Rjv (Aq (Am 1) l).1 hi (Cw (Aq (Am 1) l).2.length rs) (Cw (Aq (Am 1) l).2.length ks) (by omega) (by omega)).to (Same.of_eq (by rw[hor])))<|hk0) v0 c0 ?_
 refine Ad ?_
 refine Aa [] [8,10,11,13,14,63] ?_
 refine Eh (by kernel_rfl) ?_
 refine Ai ?_
 refine Aa [] [8,10,13,14,16] ?_
 refine Aa [] [8,10,13,14,16,17] ?_
 refine Ad ?_
 refine Aa [] [8,10,13,14,16,17,18] ?_
 refine A1 ?_
 refine Bz (fun g y=>∃(i:Nat),i≤oa.length∧y=⟨[(8,(.fp (Bm ((Aq (Am 1) l).1)))),(10,(.fp (A4 ((Aq (Am 1) l).1)))),(13,(Ac 3 A3 oa)),(14,(Ac 7 B1 ob)),(16,(Ag (Aj (Cw (Aq (Am 1) l).2.length rs) (oa.take i)))),(17,(.int .i64 (Fo (oa.take i)))),(18,(.int .i64 ((i:Int))))],[],0⟩∧g=oa.length-i) [8,10,13,14,16,17,18] 0 _ (by omega) ⟨0,(by omega),(Eq.trans (b:=(⟨[(8,(.fp (Bm ((Aq (Am 1) l).1)))),(10,(.fp (A4 ((Aq (Am 1) l).1)))),(13,(Ac 3 A3 oa)),(14,(Ac 7 B1 ob)),(16,(Ag (Cw (Aq (Am 1) l).2.length rs))),(17,(.int .i64 (-1))),(18,(.int .i64 0))],[],0⟩:St)) (by kernel_rfl) (by rw[show(Aj (Cw (Aq (Am 1) l).2.length rs) (oa.take 0))=(Cw (Aq (Am 1) l).2.length rs) from h0]<;>kernel_rfl)),rfl⟩ ?_
 rintro g1 y1 ⟨i,f1_1,rfl,rfl⟩
 have hal:=Q6 (Cw (Aq (Am 1) l).2.length rs) (oa.take i)
 have htk:=List.length_take_le i oa
 refine Ad ?_
 refine Aa [] [8,10,13,14,16,17,18,68] ?_
 refine A6 (p:=(i:Int) < (oa.length:Int)) (by kernel_rfl) (fun c1=>?_) (fun c1=>?_)
 ·have hsi:=hfs i (by omega)
  unfold Ji at hsi
  obtain⟨s1,hs1⟩:∃z,D5 ob (i:Int)=z:=⟨_,rfl⟩
  obtain⟨p1,hp1⟩:∃z,C6 ob (i:Int)=z:=⟨_,rfl⟩
  refine Ai ?_
  refine Ad ?_
  refine A1 ?_
  refine Af [] [8,10,13,14,16,17,18,19] [] hk0 v0 (cc 2 (p:=(0≤(i:Int)∧i < oa.length)) (by first|omega|(simp;omega)|(simp;done)|(intros;simp_all;omega)|(intros;simp_all;done))<|c0) ?_
  refine Af [] [8,10,13,14,16,17,18,19,20] [] (hk 4 Q12 (Xm (nth oa i))<|hk0) v0 (cc 2 (p:=(0≤(i:Int)∧i < oa.length)) (by first|omega|(simp;omega)|(simp;done)|(intros;simp_all;omega)|(intros;simp_all;done))<|c0) ?_
  refine Af [] [8,10,13,14,16,17,18,19,20,21,22] [] (hk 2 X3c ((X5r ob (i:Int) (by omega)).to (Same.of_eq (by rw[hs1,hp1])))<|hk0) v0 c0 ?_
  refine Ad ?_
  refine Aa [] [8,10,13,14,16,17,18,19,21,22,87] ?_
  refine A8 (q:=Cs (nth oa i).1) (by kernel_rfl) (fun c2=>?_) (fun c2=>?_)
  ·try simp only[Ao] at c2
   have hoi:=hoin (nth oa i) (Jov (by omega))
   obtain⟨m1,hm1⟩:∃z,E2 (Aq (Am 1) l).1 (Cb (nth oa i).2.1 (Aj (Cw (Aq (Am 1) l).2.length rs) (oa.take i))) (Bl (Aq (Am 1) l).1 (nth oa i).2.1)=z:=⟨_,rfl⟩
   obtain⟨m2,hm2⟩:∃z,E2 (Aq (Am 1) l).1 (Cb (nth oa i).2.1 (Aj (Cw (Aq (Am 1) l).2.length rs) (oa.take i))) (Bu (Aq (Am 1) l).1 (nth oa i).2.1)=z:=⟨_,rfl⟩
   obtain⟨hf,hh1⟩:∃z,Iy (Aq (Am 1) l).1 oa i (Aj (Cw (Aq (Am 1) l).2.length rs) (oa.take i))=z:=⟨_,rfl⟩
   rw[if_pos c2,hm1,hm2,hh1,hs1,hp1] at hsi
   refine Af [] [8,10,13,14,16,18,19,21,22,23] [(9,23)] (hk 2 (al:=[(.fp (Bm ((Aq (Am 1) l).1))),(.int .i64 ((nth oa i).2.1))]) I3 ((Je (Aq (Am 1) l).1 ((nth oa i).2.1).toNat (by omega) (hi.2 _ (by omega))).of_args (ImpL.cons Imp.refl (ImpL.cons (Imp.of_eq (congrArg (AV.int .i64) (L6 (by omega)))) ImpL.nil)))<|hk0) v0 c0 ?_
   refine Af [] [8,10,13,14,16,18,19,21,22,23,26] [] (hk 2 Ul (Sp (Aj (Cw (Aq (Am 1) l).2.length rs) (oa.take i)) (nth oa i).2.1 (by omega))<|hk0) v0 c0 ?_
   refine Af [] [8,10,13,14,16,18,19,21,22,23,26,27] [] (hk 4 Ujv ((Tfv (Aq (Am 1) l).1 hi (Cb (nth oa i).2.1 (Aj (Cw (Aq (Am 1) l).2.length rs) (oa.take i))) (by have:=Ni (nth oa i).2.1 (Aj (Cw (Aq (Am 1) l).2.length rs) (oa.take i));omega) (Bl (Aq (Am 1) l).1 (nth oa i).2.1) (Hh hi hoi).1 (Hh hi hoi).2).to (Same.of_eq (by rw[hm1])))<|hk0) v0 c0 ?_
   refine Af [] [8,10,13,14,16,18,19,21,22,27,28] [] (hk 4 Ujv ((Tfv (Aq (Am 1) l).1 hi (Cb (nth oa i).2.1 (Aj (Cw (Aq (Am 1) l).2.length rs) (oa.take i))) (by have:=Ni (nth oa i).2.1 (Aj (Cw (Aq (Am 1) l).2.length rs) (oa.take i));omega) (Bu (Aq (Am 1) l).1 (nth oa i).2.1) (Iq hi hoi).1 (Iq hi hoi).2).to (Same.of_eq (by rw[hm2])))<|hk0) v0 c0 ?_
   refine Ad ?_
   have qh1:(((!(p1 == m1))=true→(!(p1 == m1))=true))∧(((!(p1 == m1))=true→((!(p1 == m1))=true)∧(m1=true→((!(p1 == m1))&&m1)=true)))∧(((!(p1 == m1))=true→(!(p1 == m1))=true∧(!(p1 == m1))=true))∧(((p1 == m1)=false→(!(p1 == m1))=true)):=by
    (try subst hb1);cases p1<;>cases m1<;>cases s1<;>simp
   refine Af [112,113,114,115,116,117] [8,10,13,14,16,18,19,22,118] [] hk0 v0 (cc 6 (p:=((!(p1 == m1))=true→(!(p1 == m1))=true)) qh1.1<|cc 8 (p:=((!(p1 == m1))=true→((!(p1 == m1))=true)∧(m1=true→((!(p1 == m1))&&m1)=true))) qh1.2.1<|cc 9 (p:=((!(p1 == m1))=true→(!(p1 == m1))=true∧(!(p1 == m1))=true)) qh1.2.2.1<|cc 10 (p:=((p1 == m1)=false→(!(p1 == m1))=true)) qh1.2.2.2<|c0) ?_
   refine A8 (q:=(p1 == m1)||(s1 == (m1&&m2))) (by kernel_rfl) (fun c3=>?_) (fun c3=>?_)
   ·try simp only[Ao] at c3
    exfalso
    revert hsi c3
    cases p1<;>cases m1<;>cases m2<;>cases s1<;>cases hf<;>simp
   ·try simp only[Ao] at c3
    refine Ai ?_
    refine Af [] [8,10,13,14,16,18,19,22,29] [] (hk 5 X3bv ((X1w (Aq (Am 1) l).1 hi oa hoin (by omega) i (by omega) (Aj (Cw (Aq (Am 1) l).2.length rs) (oa.take i)) (by omega)).to (Same.of_eq (by rw[hh1])))<|hk0) v0 c0 ?_
    refine Ad ?_
    refine Af [127] [8,10,13,14,16,18,19,128] [] hk0 v0 (cc 3 (p:=(p1=true→p1=true)) (by first|omega|(simp;omega)|(simp;done)|(intros;simp_all;omega)|(intros;simp_all;done))<|c0) ?_
    refine A8 (q:=p1&&hf) (by kernel_rfl) (fun c4=>?_) (fun c4=>?_)
    ·try simp only[Ao] at c4
     exfalso
     revert hsi c4
     cases p1<;>cases m1<;>cases m2<;>cases s1<;>cases hf<;>simp
    ·try simp only[Ao] at c4
     refine Ai ?_
     refine Ap ?_
     refine Ey [] [8,10,13,14,16,17,18] ?_
     refine Ap ?_
     refine Av (CS:=[(4,(-9223372036854775808≤(i:Int)+1∧(i:Int)+1≤9223372036854775807)),(5,(0≤(i:Int)∧(i:Int)≤(i:Int)+1∧(i:Int)+1≤(oa.length:Int)))]) 0 [] [8,10,13,14,16,17,18] [] (hk 6 Um ((V3 (Aj (Cw (Aq (Am 1) l).2.length rs) (oa.take i)) [nth oa i] (by omega) (by simp)).to (Same.of_eq (by rw[Vhv,←Gg (by omega)])))<|hk0) (vk 6 153 (a:=(.row 3 ((i+1)-i) (fun kx=>(.agg [(.int .i64 ((nth oa (i+kx)).1)),(.int .i64 ((nth oa (i+kx)).2.1)),(.int .i64 ((nth oa (i+kx)).2.2))])))) (b:=(Ac 3 A3 [nth oa i])) (show Imp (.row 3 ((i+1)-i) (fun kx=>(.agg [(.int .i64 ((nth oa (i+kx)).1)),(.int .i64 ((nth oa (i+kx)).2.1)),(.int .i64 ((nth oa (i+kx)).2.2))]))) (Ac 3 A3 [nth oa i]) from Yw (by omega))<|v0) (by refine cc _ ?_<|cc _ ?_ c0<;>first|omega|(simp;omega)|(simp;done)|(intros;simp_all;omega)|(intros;simp_all;done)) ?_
     refine Ap ?_
     refine Av 0 [] [8,10,13,14,16,17,18] [] hk0 v0 (cc 1 (p:=(-9223372036854775808≤(i:Int)+1∧(i:Int)+1≤9223372036854775807)) (by first|omega|(simp;omega)|(simp;done)|(intros;simp_all;omega)|(intros;simp_all;done))<|c0) ?_
     refine⟨by kernel_rfl,_,?_,i+1,?_,(Eq.trans (b:=(⟨[(8,(.fp (Bm ((Aq (Am 1) l).1)))),(10,(.fp (A4 ((Aq (Am 1) l).1)))),(13,(Ac 3 A3 oa)),(14,(Ac 7 B1 ob)),(16,(Ag (Aj (Cw (Aq (Am 1) l).2.length rs) (oa.take (i+1))))),(17,(.int .i64 ((nth oa i).2.1))),(18,(.int .i64 ((i:Int)+1)))],[],0⟩:St)) (by kernel_rfl) (by rw[X0yv (l:=oa) (i:=i) (by omega) c2]<;>kernel_rfl)),rfl⟩
     ·omega
     ·omega
  ·try simp only[Ao] at c2
   rw[if_neg (by simp[c2]),hs1] at hsi
   refine Af (CS:=[(4,((!s1)=true→((!s1)=true∧(!s1)=true)∧(0≤(i:Int)∧i < oa.length))),(5,((!s1)=true→(!s1)=true)),(6,((!s1)=true→(!s1)=true)),(7,((!s1)=true→(!s1)=true)),(8,((!s1)=true→(!s1)=true)),(11,(((!s1)&&(decide (0≤((nth oa i).2.2))))=true→(((!s1)&&(decide (0≤((nth oa i).2.2))))=true∧((!s1)&&(decide (0≤((nth oa i).2.2))))=true)∧(0≤(i:Int)∧i < oa.length))),(12,(((!s1)&&(decide (0≤((nth oa i).2.2))))=true→((!s1)&&(decide (0≤((nth oa i).2.2))))=true)),(13,(((!s1)&&(decide (0≤((nth oa i).2.2))))=true→((!s1)&&(decide (0≤((nth oa i).2.2))))=true)),(15,(((!s1)&&(decide (0≤((nth oa i).2.2))))=true→((!s1)&&(decide (0≤((nth oa i).2.2))))=true∧((!s1)&&(decide (0≤((nth oa i).2.2))))=true)),(16,((!s1)=true→((!s1)=true)∧((decide (0≤((nth oa i).2.2)))=true→((!s1)&&(decide (0≤((nth oa i).2.2))))=true))),(17,(s1=false→(!s1)=true))]) [132,133,134,135,136,137,138,139,140,141,142,143,144,145,146] [8,10,13,14,16,17,18,147] [] hk0 v0 (by refine cc _ ?_<|cc _ ?_<|cc _ ?_<|cc _ ?_<|cc _ ?_<|cc _ ?_<|cc _ ?_<|cc _ ?_<|cc _ ?_<|cc _ ?_<|cc _ ?_ c0<;>first|omega|(simp;omega)|(simp;done)|(intros;simp_all;omega)|(intros;simp_all;done)) ?_
   refine A8 (q:=s1||((decide (0≤((nth oa i).2.2)))&&(!decide (((nth oa i).2.2)=(Fo (oa.take i)))))) (by kernel_rfl) (fun c5=>?_) (fun c5=>?_)
   ·try simp only[Ao] at c5
    exfalso
    revert hsi c5
    cases s1<;>simp<;>omega
   ·try simp only[Ao] at c5
    refine Ai ?_
    refine Ap ?_
    refine Av (CS:=[(4,(-9223372036854775808≤(i:Int)+1∧(i:Int)+1≤9223372036854775807)),(5,(0≤(i:Int)∧(i:Int)≤(i:Int)+1∧(i:Int)+1≤(oa.length:Int)))]) 0 [] [8,10,13,14,16,17,18] [] (hk 6 Um ((V3 (Aj (Cw (Aq (Am 1) l).2.length rs) (oa.take i)) [nth oa i] (by omega) (by simp)).to (Same.of_eq (by rw[Vhv,←Gg (by omega)])))<|hk0) (vk 6 153 (a:=(.row 3 ((i+1)-i) (fun kx=>(.agg [(.int .i64 ((nth oa (i+kx)).1)),(.int .i64 ((nth oa (i+kx)).2.1)),(.int .i64 ((nth oa (i+kx)).2.2))])))) (b:=(Ac 3 A3 [nth oa i])) (show Imp (.row 3 ((i+1)-i) (fun kx=>(.agg [(.int .i64 ((nth oa (i+kx)).1)),(.int .i64 ((nth oa (i+kx)).2.1)),(.int .i64 ((nth oa (i+kx)).2.2))]))) (Ac 3 A3 [nth oa i]) from Yw (by omega))<|v0) (by refine cc _ ?_<|cc _ ?_ c0<;>first|omega|(simp;omega)|(simp;done)|(intros;simp_all;omega)|(intros;simp_all;done)) ?_
    refine Ap ?_
    refine Av 0 [] [8,10,13,14,16,17,18] [] hk0 v0 (cc 1 (p:=(-9223372036854775808≤(i:Int)+1∧(i:Int)+1≤9223372036854775807)) (by first|omega|(simp;omega)|(simp;done)|(intros;simp_all;omega)|(intros;simp_all;done))<|c0) ?_
    refine⟨by kernel_rfl,_,?_,i+1,?_,(Eq.trans (b:=(⟨[(8,(.fp (Bm ((Aq (Am 1) l).1)))),(10,(.fp (A4 ((Aq (Am 1) l).1)))),(13,(Ac 3 A3 oa)),(14,(Ac 7 B1 ob)),(16,(Ag (Aj (Cw (Aq (Am 1) l).2.length rs) (oa.take (i+1))))),(17,(.int .i64 (Fo (oa.take i)))),(18,(.int .i64 ((i:Int)+1)))],[],0⟩:St)) (by kernel_rfl) (by rw[X0z (l:=oa) (i:=i) (by omega) c2]<;>kernel_rfl)),rfl⟩
    ·omega
    ·omega
 ·refine Bt ?_
  refine Aa [] [6] ?_
  refine Ah ?_
  refine RK wR [(.bool true)] ?_
  exact Same.of_eq (by first|rfl|(simp only[An];simp_all))
end Sv
end
section
open Go Go.RowKit
namespace Sv
attribute [local irreducible] SW SO Bn
set_option maxHeartbeats 1000000
set_option maxRecDepth 100000
theorem Q51v (i n:Nat):Int.tmod ((i:Int)+1) (n:Int)=(((i+1) % n:Nat):Int):=rfl
theorem Skv {x:Int} (h:0≤x):0≤Int.tmod x 40∧Int.tmod x 40 < 40:=by
 rw[Int.tmod_eq_emod_of_nonneg h];omega
def En (n:Nat):List Int:=(List.range n).map fun (i:Nat)=>(i:Int)
theorem X6qv (n:Nat):En n=upI 0 n:=by unfold En upI;simp
theorem Vlv {i:Nat}:(En (i+1)).map (AV.int .i64)=(En i).map (AV.int .i64)++[AV.int .i64 (i:Int)]:=by unfold En;rw[List.range_succ,List.map_append,List.map_append];rfl
section
variable {n i : Nat} {ring pre : Bool}
theorem Ssv {a b:List DepT} (h:pkC n ring pre i=pkG i a b):((List.range (i+1)).map (pkC n ring pre)).map Ar=((List.range i).map (pkC n ring pre)).map Ar++[Ar (pkG i a b)]:=by rw[List.range_succ,List.map_append,List.map_append,←h];rfl
theorem Y5v (h:i+1 < n∨ring=true):nxC n ring i=[Bw (pkN ((i+1) % n))]:=if_pos h
theorem Q79 (h:i+1 < n∨ring=true) (k:pre=true):pkC n ring pre i=pkG i [] [Bw (pkN ((i+1) % n))]:=by unfold pkC;rw[if_pos k,if_pos k,Y5v h]
theorem Q78 (h:i+1 < n∨ring=true) (k:pre=false):pkC n ring pre i=pkG i [Bw (pkN ((i+1) % n))] []:=by unfold pkC;rw[if_neg (by simp[k]),if_neg (by simp[k]),Y5v h]
theorem Q8a (h:¬(i+1 < n∨ring=true)):pkC n ring pre i=pkG i [] []:=by
 unfold pkC nxC;rw[if_neg h];cases pre<;>rfl
theorem Yo (h:(i:Int)+1 < (n:Int)∨ring=true):i+1 < n∨ring=true:=h.imp (fun q=>by omega) id
theorem Q85v (h:¬(i:Int)+1 < (n:Int)∧ring=false):¬(i+1 < n∨ring=true):=by
 rw[h.2];simp;have:=h.1;omega
theorem P8v (i:Nat):(Ef i).length≤2:=by unfold Ef;split<;>simp
theorem Q8f:(pkC n ring pre i).size≤100:=by
 have h1:=P8v i
 have h2:=P8v ((i+1) % n)
 have h3:argsSize (nxC n ring i)≤8:=by
  unfold nxC
  split
  ·simp only[argsSize,Bw,DepT.size,pkN,List.length_cons,List.length_nil];omega
  ·simp[argsSize]
 have h4:argsSize []=0:=by simp only[argsSize]
 unfold PkgT.size PkgT.depSize
 show 1+(112::Ef i).length+1+6+0+(argsSize []+argsSize (if pre=true then [] else nxC n ring i)+argsSize (if pre=true then nxC n ring i else [])+argsSize []+argsSize []+argsSize []+argsSize [])+0≤100
 rw[h4]
 cases pre
 ·rw[if_neg (by simp),if_neg (by simp),h4];simp only[List.length_cons];omega
 ·rw[if_pos rfl,if_pos rfl,h4];simp only[List.length_cons];omega
theorem Xxv:∀l:List PkgT,(∀p∈l,p.size≤100)→Fy l≤101*l.length
 |[],_=>by simp[Fy]
 |p::r,h=>by
  have h1:=h p (by simp)
  have h2:=Xxv r fun q hq=>h q (by simp[hq])
  simp only[Fy,List.length_cons];omega
theorem Xev (hn:n≤41):∀i,i < [Ed n ring pre].length→(nth [Ed n ring pre] i).size≤4194304:=fun i hi=>by
 obtain rfl:i=0:=by simpa using hi
 show(Ed n ring pre).size≤_
 have h:=Xxv ((List.range n).map (pkC n ring pre)) fun p hp=>by
  obtain⟨j,_,rfl⟩:=List.mem_map.1 hp
  exact Q8f
 rw[List.length_map,List.length_range] at h
 unfold RepoT.size
 show _+Fy ((List.range n).map (pkC n ring pre))≤_
 have hm:(Ed n ring pre).name.length=4:=rfl
 omega
theorem Q8y (hn:n≤41) (h2:2≤n):C7 Ab (stC n ring pre) [] (En n)=Fl n ring pre:=by rw[X6qv];exact Q8z hn h2
theorem X5iv {oa:List Bc} {ob:List Ck} (h:Fl n ring pre=(oa,ob,0)) (hr:ring=false):ob=[]∧∀j,j < n→(nth oa j).2.1=(n:Int)-1-(j:Int):=by
 subst hr
 have h1:(Fl n false pre).2.1=ob:=by rw[h]
 have h2:(Fl n false pre).1=oa:=by rw[h]
 refine⟨by rw[←h1];rfl,fun j hj=>?_⟩
 rw[←h2,Q82 hj]
 show((n-1-j:Nat):Int)=_
 omega
theorem Q7ev {oa:List Bc} {ob:List Ck} (h2:2≤n) (h:Fl n ring pre=(oa,ob,0)) (hr:ring=true):ob=[(0,pre,Bw (pkN 1))]∧(nth oa 0).2.1=0∧(nth oa (n-1)).2.1=1:=by
 subst hr
 have h1:(Fl n true pre).2.1=ob:=by rw[h]
 have h3:(Fl n true pre).1=oa:=by rw[h]
 refine⟨by rw[←h1];rfl,by rw[←h3];rfl,?_⟩
 rw[←h3,Q81 h2];rfl
theorem Q4mv:(En n).length=n:=by unfold En;simp
end
theorem orderChains_ok (a : Int) (ring pre : Bool) (ha : -9223372036854775808 ≤ a ∧ a ≤ 9223372036854775807) :
  FnV Tryz.prog 7 [(.int .i64 a),(.bool ring),(.bool pre)] (.bool true):=by
 refine A5 [.tmp 6] Tryz.func7 rfl Tryz.ntmps7 rfl rfl (fun B F hF=>?_)
 refine Aa [] [0,1,2] ?_
 refine Af [] [0,1,2,7] [] (hk 0 Q15v Q3yv<|hk0) v0 c0 ?_
 refine D0 (fun y=>∃(v:Int),0≤v∧v≤9223372036854775807∧y=⟨[(0,(.int .i64 v)),(1,(.bool ring)),(2,(.bool pre)),(7,(.bool true))],[],0⟩) [0,1,2,7] 0 (by omega) ?_ ?_
 ·refine Aa [] [0,1,2,7,21] ?_
  refine A6 (p:=a < 0) (by kernel_rfl) (fun c1=>?_) (fun c1=>?_)
  ·refine Ap ?_
   refine Av (CS:=[(1,(-9223372036854775808≤a+1∧a+1≤9223372036854775807)),(2,(-9223372036854775808≤0-(a+1)∧0-(a+1)≤9223372036854775807))]) 0 [] [0,1,2,7] [] hk0 v0 (by refine cc _ ?_<|cc _ ?_ c0<;>first|omega|(simp;omega)|(simp;done)|(intros;simp_all;omega)|(intros;simp_all;done)) ?_
   refine⟨by kernel_rfl,(0-(a+1)),?_,?_,(by kernel_rfl)⟩
   all_goals omega
  ·refine Ai ?_
   refine⟨by kernel_rfl,a,?_,?_,(by kernel_rfl)⟩
   all_goals omega
 ·rintro y1 ⟨v,hv0,hv1,rfl⟩
  obtain⟨n,hv,h2,hn⟩:∃n:Nat,2+(Int.tmod v 40)=(n:Int)∧2≤n∧n≤41:=⟨(2+(Int.tmod v 40)).toNat,by have:=Skv hv0;omega,by have:=Skv hv0;omega,by have:=Skv hv0;omega⟩
  have hi:IdxOk (stC n ring pre):=Ve (Xev hn)
  have hst:=O3v (ring:=ring) (pre:=pre) hn
  have hac:=Q4mv (n:=n)
  obtain⟨oa,ob,hor⟩:∃oa ob,Fl n ring pre=(oa,ob,0):=by
   unfold Fl;split<;>exact⟨_,_,rfl⟩
  have hlen:oa.length=n:=by
   have:=Q80 (n:=n) (ring:=ring) (pre:=pre)
   rw[hor] at this
   exact this.resolve_right (by omega)
  refine Af (CS:=[(1,((40:Int)≠0)),(2,(-9223372036854775808≤2+(Int.tmod v 40)∧2+(Int.tmod v 40)≤9223372036854775807))]) [] [0,1,2,7] [] hk0 v0 (by refine cc _ ?_<|cc _ ?_ c0<;>first|omega|(simp;omega)|(simp;done)|(intros;simp_all;omega)|(intros;simp_all;done)) ?_
  refine Ad ?_
  refine Ap ?_
  refine Ft 0 (.int .i64 (n:Int)) (by kernel_rfl) (Imp.of_eq (congrArg (AV.int .i64) hv)) ?_
  refine Ey [] [0,1,2,7,8] ?_
  refine Aa [] [0,1,2,7,8,9] ?_
  refine Ad ?_
  refine Aa [] [0,1,2,7,8,9,10] ?_
  refine A1 ?_
  refine Mu 38 12 8 (y:=⟨[(0,(.int .i64 ((n:Int)))),(1,(.bool ring)),(2,(.bool pre)),(7,(.bool true)),(8,(.own 0)),(9,.nils),(10,(.int .i64 0))],[(0,(.grow [] 38 12))],1⟩) (by kernel_rfl) (by kernel_rfl) ?_
  refine Mu 3 1 9 (y:=⟨[(0,(.int .i64 ((n:Int)))),(1,(.bool ring)),(2,(.bool pre)),(7,(.bool true)),(8,(.own 0)),(9,(.own 1)),(10,(.int .i64 0))],[(0,(.grow [] 38 12)),(1,(.grow [] 3 1))],2⟩) (by kernel_rfl) (by kernel_rfl) ?_
  refine Bz (fun g y=>∃(i:Nat),i≤n∧y=⟨[(0,(.int .i64 ((n:Int)))),(1,(.bool ring)),(2,(.bool pre)),(7,(.bool true)),(8,(.own 0)),(9,(.own 1)),(10,(.int .i64 ((i:Int))))],[(0,(.grow (((List.range i).map (pkC n ring pre)).map Ar) 38 12)),(1,(.grow ((En i).map (AV.int .i64)) 3 1))],2⟩∧g=n-i) [0,1,2,7,8,9,10] 2 _ (by omega) ⟨0,(by omega),(by kernel_rfl),rfl⟩ ?_
  rintro g1 y1 ⟨i,f1_1,rfl,rfl⟩
  have hi1:=P8v i
  have hi2:=P8v ((i+1) % n)
  have hpl:(((List.range i).map (pkC n ring pre)).map Ar).length=i:=by simp
  have hil:((En i).map (AV.int .i64)).length=i:=by rw[List.length_map];exact Q4mv
  refine Ad ?_
  refine Aa [] [0,1,2,7,8,9,10,30] ?_
  refine A6 (p:=(i:Int) < (n:Int)) (by kernel_rfl) (fun c2=>?_) (fun c2=>?_)
  ·refine Ai ?_
   refine Ad ?_
   refine A1 ?_
   refine Af [] [0,1,2,7,8,9,10,11] [] (hk 1 Q10v (Q0gv i (by omega))<|hk0) v0 (cc 2 (p:=([112].length+(Ef i).length≤9223372036854775807)) (by first|omega|(simp;omega)|(simp;done)|(intros;simp_all;omega)|(intros;simp_all;done))<|c0) ?_
   refine Ad ?_
   obtain⟨b1,hb1⟩:∃b,b=(decide (((i:Int)+1) < (n:Int))):=⟨_,rfl⟩
   refine Af (CS:=[(1,(-9223372036854775808≤(i:Int)+1∧(i:Int)+1≤9223372036854775807)),(6,(b1=false→(!b1)=true))]) [42] [0,1,2,7,8,9,10,11,43] [] hk0 (vk 5 41 (a:=.bool (decide (((i:Int)+1) < (n:Int)))) (b:=.bool b1) (Imp.of_eq (by rw[hb1]))<|v0) (by refine cc _ ?_<|cc _ ?_ c0<;>first|omega|(simp;omega)|(simp;done)|(intros;simp_all;omega)|(intros;simp_all;done)) ?_
   refine A8 (q:=b1||ring) (by kernel_rfl) (fun c3=>?_) (fun c3=>?_)
   ·subst hb1
    try simp only[Ao] at c3
    refine Af (CS:=[(1,(-9223372036854775808≤(i:Int)+1∧(i:Int)+1≤9223372036854775807)),(3,((n:Int)≠0)),(5,([112].length+(Ef ((i+1) % n)).length≤9223372036854775807))]) [] [0,1,2,7,8,9,10,11,12] [(8,51)] (hk 4 (al:=[(.int .i64 (Int.tmod ((i:Int)+1) (n:Int)))]) Q10v ((Q0gv ((i+1) % n) (by have:=Nat.mod_lt (i+1) (show 0 < n by omega);omega)).of_args (ImpL.cons (Imp.of_eq (congrArg (AV.int .i64) (Q51v i n))) ImpL.nil))<|hk0) (vk 7 50 (a:=(.agg [(.int .i64 1),(.str ([112]++(Ef ((i+1) % n)))),(.int .i64 0),(.str []),.nils])) (b:=(.agg [(.int .i64 ((Bw (pkN ((i+1) % n))).kind)),(.str ((Bw (pkN ((i+1) % n))).name)),(.int .i64 ((Bw (pkN ((i+1) % n))).op)),(.str ((Bw (pkN ((i+1) % n))).evr)),(.row 5 (Bw (pkN ((i+1) % n))).args.length (depAt (Bw (pkN ((i+1) % n))).args))])) ((Imp.aggs (ImpL.cons Imp.refl (ImpL.cons Imp.refl (ImpL.cons Imp.refl (ImpL.cons Imp.refl (ImpL.cons (Imp.nil.trans (Oa [])) ImpL.nil)))))))<|vk 8 51 (b:=(Ac 5 Ak [(Bw (pkN ((i+1) % n)))])) (Imp.list (f:=Ak) rfl)<|v0) (by refine cc _ ?_<|cc _ ?_<|cc _ ?_ c0<;>first|omega|(simp;omega)|(simp;done)|(intros;simp_all;omega)|(intros;simp_all;done)) ?_
    refine Aa [] [0,1,2,7,8,9,10,11,12,52] ?_
    refine A8 (q:=pre) (by kernel_rfl) (fun c4=>?_) (fun c4=>?_)
    ·try simp only[Ao] at c4
     refine Ap ?_
     refine Ey [] [0,1,2,7,8,9,10,11] ?_
     refine Af [] [0,1,2,7,8,9,10] [] hk0 (vk 2 58 (a:=(.agg [(.str ([112]++(Ef i))),(.str ([49])),(.str ([110,111,97,114,99,104])),(.str []),.nils,.nils,(Ac 5 Ak [(Bw (pkN ((i+1) % n)))]),.nils,.nils,.nils,.nils,.nils])) (b:=(Ar (pkG i [] [(Bw (pkN ((i+1) % n)))]))) ((Imp.aggs (ImpL.cons Imp.refl (ImpL.cons Imp.refl (ImpL.cons Imp.refl (ImpL.cons Imp.refl (ImpL.cons Imp.nil (ImpL.cons Imp.nil (ImpL.cons Imp.refl (ImpL.cons Imp.nil (ImpL.cons Imp.nil (ImpL.cons Imp.nil (ImpL.cons Imp.nil (ImpL.cons Imp.nil ImpL.nil))))))))))))))<|v0) (cc 3 (p:=(((((List.range i).map (pkC n ring pre)).map Ar).length+1)*256≤140737488355328)) (by first|omega|(simp;omega)|(simp;done)|(intros;simp_all;omega)|(intros;simp_all;done))<|c0) ?_
     refine Ap ?_
     refine Av 0 [] [0,1,2,7,8,9,10] [] hk0 v0 (cc 3 (p:=((((En i).map (AV.int .i64)).length+1)*8≤140737488355328)) (by first|omega|(simp;omega)|(simp;done)|(intros;simp_all;omega)|(intros;simp_all;done))<|c0) ?_
     refine Ap ?_
     refine Av 0 [] [0,1,2,7,8,9,10] [] hk0 v0 (cc 1 (p:=(-9223372036854775808≤(i:Int)+1∧(i:Int)+1≤9223372036854775807)) (by first|omega|(simp;omega)|(simp;done)|(intros;simp_all;omega)|(intros;simp_all;done))<|c0) ?_
     refine⟨by kernel_rfl,_,?_,i+1,?_,(Eq.trans (b:=(⟨[(0,(.int .i64 ((n:Int)))),(1,(.bool ring)),(2,(.bool pre)),(7,(.bool true)),(8,(.own 0)),(9,(.own 1)),(10,(.int .i64 ((i:Int)+1)))],[(0,(.grow ((((List.range i).map (pkC n ring pre)).map Ar)++([(.agg [(.str ((pkG i [] [(Bw (pkN ((i+1) % n)))]).name)),(.str ((pkG i [] [(Bw (pkN ((i+1) % n)))]).evr)),(.str ((pkG i [] [(Bw (pkN ((i+1) % n)))]).arch)),(.str ((pkG i [] [(Bw (pkN ((i+1) % n)))]).vendor)),(Ac 5 Ak ((pkG i [] [(Bw (pkN ((i+1) % n)))]).provides)),(Ac 5 Ak ((pkG i [] [(Bw (pkN ((i+1) % n)))]).requires)),(Ac 5 Ak ((pkG i [] [(Bw (pkN ((i+1) % n)))]).pre)),(Ac 5 Ak ((pkG i [] [(Bw (pkN ((i+1) % n)))]).conflicts)),(Ac 5 Ak ((pkG i [] [(Bw (pkN ((i+1) % n)))]).obsoletes)),(Ac 5 Ak ((pkG i [] [(Bw (pkN ((i+1) % n)))]).recommends)),(Ac 5 Ak ((pkG i [] [(Bw (pkN ((i+1) % n)))]).supplements)),(C4 ((pkG i [] [(Bw (pkN ((i+1) % n)))]).files))])]:List AV)) 38 12)),(1,(.grow (((En i).map (AV.int .i64))++([(.int .i64 ((i:Int)))]:List AV)) 3 1))],2⟩:St)) (by kernel_rfl) (by rw[Ssv (Q79 (Yo c3) c4),Vlv]<;>kernel_rfl)),rfl⟩
     ·omega
     ·omega
    ·try simp only[Ao] at c4
     refine Ap ?_
     refine Ey [] [0,1,2,7,8,9,10,11] ?_
     refine Af [] [0,1,2,7,8,9,10] [] hk0 (vk 2 58 (a:=(.agg [(.str ([112]++(Ef i))),(.str ([49])),(.str ([110,111,97,114,99,104])),(.str []),.nils,(Ac 5 Ak [(Bw (pkN ((i+1) % n)))]),.nils,.nils,.nils,.nils,.nils,.nils])) (b:=(Ar (pkG i [(Bw (pkN ((i+1) % n)))] []))) ((Imp.aggs (ImpL.cons Imp.refl (ImpL.cons Imp.refl (ImpL.cons Imp.refl (ImpL.cons Imp.refl (ImpL.cons Imp.nil (ImpL.cons Imp.refl (ImpL.cons Imp.nil (ImpL.cons Imp.nil (ImpL.cons Imp.nil (ImpL.cons Imp.nil (ImpL.cons Imp.nil (ImpL.cons Imp.nil ImpL.nil))))))))))))))<|v0) (cc 3 (p:=(((((List.range i).map (pkC n ring pre)).map Ar).length+1)*256≤140737488355328)) (by first|omega|(simp;omega)|(simp;done)|(intros;simp_all;omega)|(intros;simp_all;done))<|c0) ?_
     refine Ap ?_
     refine Av 0 [] [0,1,2,7,8,9,10] [] hk0 v0 (cc 3 (p:=((((En i).map (AV.int .i64)).length+1)*8≤140737488355328)) (by first|omega|(simp;omega)|(simp;done)|(intros;simp_all;omega)|(intros;simp_all;done))<|c0) ?_
     refine Ap ?_
     refine Av 0 [] [0,1,2,7,8,9,10] [] hk0 v0 (cc 1 (p:=(-9223372036854775808≤(i:Int)+1∧(i:Int)+1≤9223372036854775807)) (by first|omega|(simp;omega)|(simp;done)|(intros;simp_all;omega)|(intros;simp_all;done))<|c0) ?_
     refine⟨by kernel_rfl,_,?_,i+1,?_,(Eq.trans (b:=(⟨[(0,(.int .i64 ((n:Int)))),(1,(.bool ring)),(2,(.bool pre)),(7,(.bool true)),(8,(.own 0)),(9,(.own 1)),(10,(.int .i64 ((i:Int)+1)))],[(0,(.grow ((((List.range i).map (pkC n ring pre)).map Ar)++([(.agg [(.str ((pkG i [(Bw (pkN ((i+1) % n)))] []).name)),(.str ((pkG i [(Bw (pkN ((i+1) % n)))] []).evr)),(.str ((pkG i [(Bw (pkN ((i+1) % n)))] []).arch)),(.str ((pkG i [(Bw (pkN ((i+1) % n)))] []).vendor)),(Ac 5 Ak ((pkG i [(Bw (pkN ((i+1) % n)))] []).provides)),(Ac 5 Ak ((pkG i [(Bw (pkN ((i+1) % n)))] []).requires)),(Ac 5 Ak ((pkG i [(Bw (pkN ((i+1) % n)))] []).pre)),(Ac 5 Ak ((pkG i [(Bw (pkN ((i+1) % n)))] []).conflicts)),(Ac 5 Ak ((pkG i [(Bw (pkN ((i+1) % n)))] []).obsoletes)),(Ac 5 Ak ((pkG i [(Bw (pkN ((i+1) % n)))] []).recommends)),(Ac 5 Ak ((pkG i [(Bw (pkN ((i+1) % n)))] []).supplements)),(C4 ((pkG i [(Bw (pkN ((i+1) % n)))] []).files))])]:List AV)) 38 12)),(1,(.grow (((En i).map (AV.int .i64))++([(.int .i64 ((i:Int)))]:List AV)) 3 1))],2⟩:St)) (by kernel_rfl) (by rw[Ssv (Q78 (Yo c3) c4),Vlv]<;>kernel_rfl)),rfl⟩
     ·omega
     ·omega
   ·subst hb1
    try simp only[Ao] at c3
    refine Ai ?_
    refine Af [] [0,1,2,7,8,9,10] [] hk0 (vk 2 58 (a:=(.agg [(.str ([112]++(Ef i))),(.str ([49])),(.str ([110,111,97,114,99,104])),(.str []),.nils,.nils,.nils,.nils,.nils,.nils,.nils,.nils])) (b:=(Ar (pkG i [] []))) ((Imp.aggs (ImpL.cons Imp.refl (ImpL.cons Imp.refl (ImpL.cons Imp.refl (ImpL.cons Imp.refl (ImpL.cons Imp.nil (ImpL.cons Imp.nil (ImpL.cons Imp.nil (ImpL.cons Imp.nil (ImpL.cons Imp.nil (ImpL.cons Imp.nil (ImpL.cons Imp.nil (ImpL.cons Imp.nil ImpL.nil))))))))))))))<|v0) (cc 3 (p:=(((((List.range i).map (pkC n ring pre)).map Ar).length+1)*256≤140737488355328)) (by first|omega|(simp;omega)|(simp;done)|(intros;simp_all;omega)|(intros;simp_all;done))<|c0) ?_
    refine Ap ?_
    refine Av 0 [] [0,1,2,7,8,9,10] [] hk0 v0 (cc 3 (p:=((((En i).map (AV.int .i64)).length+1)*8≤140737488355328)) (by first|omega|(simp;omega)|(simp;done)|(intros;simp_all;omega)|(intros;simp_all;done))<|c0) ?_
    refine Ap ?_
    refine Av 0 [] [0,1,2,7,8,9,10] [] hk0 v0 (cc 1 (p:=(-9223372036854775808≤(i:Int)+1∧(i:Int)+1≤9223372036854775807)) (by first|omega|(simp;omega)|(simp;done)|(intros;simp_all;omega)|(intros;simp_all;done))<|c0) ?_
    refine⟨by kernel_rfl,_,?_,i+1,?_,(Eq.trans (b:=(⟨[(0,(.int .i64 ((n:Int)))),(1,(.bool ring)),(2,(.bool pre)),(7,(.bool true)),(8,(.own 0)),(9,(.own 1)),(10,(.int .i64 ((i:Int)+1)))],[(0,(.grow ((((List.range i).map (pkC n ring pre)).map Ar)++([(.agg [(.str ((pkG i [] []).name)),(.str ((pkG i [] []).evr)),(.str ((pkG i [] []).arch)),(.str ((pkG i [] []).vendor)),(Ac 5 Ak ((pkG i [] []).provides)),(Ac 5 Ak ((pkG i [] []).requires)),(Ac 5 Ak ((pkG i [] []).pre)),(Ac 5 Ak ((pkG i [] []).conflicts)),(Ac 5 Ak ((pkG i [] []).obsoletes)),(Ac 5 Ak ((pkG i [] []).recommends)),(Ac 5 Ak ((pkG i [] []).supplements)),(C4 ((pkG i [] []).files))])]:List AV)) 38 12)),(1,(.grow (((En i).map (AV.int .i64))++([(.int .i64 ((i:Int)))]:List AV)) 3 1))],2⟩:St)) (by kernel_rfl) (by rw[Ssv (Q8a (Q85v c3)),Vlv]<;>kernel_rfl)),rfl⟩
    ·omega
    ·omega
  ·obtain rfl:n=i:=by omega
   refine Bt ?_
   refine Af [] [0,1,2,7,9,13] [(1,66),(3,68)] (hk 3 Uc ((Vz 1 [Ed n ring pre] (by simp) (Xev hn)))<|hk0) (vk 1 66 (b:=(Ac 12 Ar ((List.range n).map (pkC n ring pre)))) (Imp.list (f:=Ar) (List.length_map Ar))<|vk 2 67 (a:=(.agg [(.str ([109,97,105,110])),(.int .i64 0),(.bool false),(Ac 12 Ar ((List.range n).map (pkC n ring pre)))])) (b:=(.agg [(.str ((Ed n ring pre).name)),(.int .i64 ((Ed n ring pre).prio)),(.bool ((Ed n ring pre).inst)),(Ac 12 Ar ((Ed n ring pre).pkgs))])) ((Imp.aggs (ImpL.cons Imp.refl (ImpL.cons Imp.refl (ImpL.cons Imp.refl (ImpL.cons Imp.refl ImpL.nil))))))<|vk 3 68 (b:=(Ac 4 Bf [Ed n ring pre])) (Imp.list (f:=Bf) rfl)<|v0) c0 ?_
   refine Ad ?_
   refine Aa [] [0,1,2,9,13,77] ?_
   refine Eh (by kernel_rfl) ?_
   refine Ai ?_
   refine Af [] [0,1,2,15,16,17] [(2,80)] (hk 2 (al:=[(.fp (Bm (stC n ring pre))),.nils,(Ag (En n))]) Qpv (((Rjv (stC n ring pre) hi [] (En n) (by simp) (by omega)).of_args (ImpL.cons Imp.refl (ImpL.cons Imp.nil (ImpL.cons Imp.refl ImpL.nil)))).to (Same.of_eq (by rw[Q8y hn h2,hor])))<|hk0) (vk 2 80 (b:=(Ag (En n))) (Imp.list (f:=AV.int .i64) (List.length_map (AV.int .i64)))<|v0) c0 ?_
   refine Ad ?_
   refine Aa [] [0,1,2,15,16,92] ?_
   refine Dt (p:=(oa.length:Int)=(n:Int)) (by kernel_rfl) (fun c5=>?_) (fun c5=>?_)
   ·exfalso;omega
   ·refine Ai ?_
    refine Ad ?_
    refine Aa [] [0,2,15,16,94] ?_
    refine A8 (q:=!ring) (by kernel_rfl) (fun c6=>?_) (fun c6=>?_)
    ·try simp only[Ao] at c6
     have hfa:=X5iv hor (by simpa using c6)
     have hob:ob.length=0:=by rw[hfa.1];rfl
     refine Ad ?_
     refine Aa [] [0,15,16,18] ?_
     refine A1 ?_
     refine Bz (fun g y=>∃(j:Nat),j≤n∧y=⟨[(0,(.int .i64 ((n:Int)))),(15,(Ac 3 A3 oa)),(16,(Ac 7 B1 ob)),(18,(.int .i64 ((j:Int))))],[],3⟩∧g=n-j) [0,15,16,18] 3 _ (by omega) ⟨0,(by omega),(by kernel_rfl),rfl⟩ ?_
     rintro g2 y2 ⟨j,f2_1,rfl,rfl⟩
     refine Ad ?_
     refine Aa [] [0,15,16,18,97] ?_
     refine A6 (p:=(j:Int) < (n:Int)) (by kernel_rfl) (fun c7=>?_) (fun c7=>?_)
     ·refine Ai ?_
      refine Ad ?_
      refine A1 ?_
      refine Af (CS:=[(2,(0≤(j:Int)∧j < oa.length)),(6,(-9223372036854775808≤(n:Int)-1∧(n:Int)-1≤9223372036854775807)),(8,(-9223372036854775808≤((n:Int)-1)-(j:Int)∧((n:Int)-1)-(j:Int)≤9223372036854775807))]) [] [0,15,16,18,109] [] hk0 v0 (by refine cc _ ?_<|cc _ ?_<|cc _ ?_ c0<;>first|omega|(simp;omega)|(simp;done)|(intros;simp_all;omega)|(intros;simp_all;done)) ?_
      refine Dt (p:=((nth oa j).2.1)=(((n:Int)-1)-(j:Int))) (by kernel_rfl) (fun c8=>?_) (fun c8=>?_)
      ·exfalso;have:=hfa.2 j (by omega);omega
      ·refine Ai ?_
       refine Ap ?_
       refine Av 0 [] [0,15,16,18] [] hk0 v0 (cc 1 (p:=(-9223372036854775808≤(j:Int)+1∧(j:Int)+1≤9223372036854775807)) (by first|omega|(simp;omega)|(simp;done)|(intros;simp_all;omega)|(intros;simp_all;done))<|c0) ?_
       refine⟨by kernel_rfl,_,?_,j+1,?_,(by kernel_rfl),rfl⟩
       ·omega
       ·omega
     ·refine Bt ?_
      refine Aa [] [6] ?_
      refine Ah ?_
      refine RK wR [(.bool (decide ((ob.length:Int)=0)))] ?_
      exact Same.of_eq (by first|rfl|(simp only[An];simp_all))
    ·try simp only[Ao] at c6
     have hfa:=Q7ev h2 hor (by simpa using c6)
     have hob:ob.length=1:=by rw[hfa.1];rfl
     refine Ai ?_
     obtain⟨b2,hb2⟩:∃b,b=(decide ((ob.length:Int)=1)):=⟨_,rfl⟩
     obtain⟨b3,hb3⟩:∃b,b=(b2&&(decide (((nth ob 0).1)=0))):=⟨_,rfl⟩
     obtain⟨b4,hb4⟩:∃b,b=(b3&&(((nth ob 0).2.1) == pre)):=⟨_,rfl⟩
     obtain⟨b5,hb5⟩:∃b,b=(b4&&(decide (((nth oa 0).2.1)=0))):=⟨_,rfl⟩
     obtain⟨b6,hb6⟩:∃b,b=(b5&&(decide (((nth oa (((n:Int)-1).toNat)).2.1)=1))):=⟨_,rfl⟩
     refine Af (CS:=[(5,(b2=true→(b2=true)∧(0≤(0:Int)∧0 < ob.length))),(6,(b2=true→b2=true)),(7,(b2=true→b2=true)),(8,(b2=true→b2=true)),(9,(b2=true→b2=true)),(12,(b3=true→(b3=true)∧(0≤(0:Int)∧0 < ob.length))),(13,(b3=true→b3=true)),(14,(b3=true→b3=true)),(16,(b3=true→b3=true∧b3=true)),(17,(b3=true→b3=true)),(20,(b4=true→(b4=true)∧(0≤(0:Int)∧0 < oa.length))),(21,(b4=true→b4=true)),(22,(b4=true→b4=true)),(23,(b4=true→b4=true)),(24,(b4=true→b4=true)),(28,(b5=true→(b5=true)∧(-9223372036854775808≤(n:Int)-1∧(n:Int)-1≤9223372036854775807))),(29,(b5=true→(b5=true∧b5=true)∧(0≤(n:Int)-1∧((n:Int)-1).toNat < oa.length))),(30,(b5=true→b5=true)),(31,(b5=true→b5=true)),(32,(b5=true→b5=true)),(33,(b5=true→b5=true))]) [117,118,119,120,121,124,125,126,127,128,129,132,133,134,135,136,139,140,141,142,143,144,145] [6] [] hk0 (vk 4 116 (a:=.bool (decide ((ob.length:Int)=1))) (b:=.bool b2) (Imp.of_eq (by rw[hb2]))<|vk 11 123 (a:=.bool (b2&&(decide (((nth ob 0).1)=0)))) (b:=.bool b3) (Imp.of_eq (by rw[hb3]))<|vk 19 131 (a:=.bool (b3&&(((nth ob 0).2.1) == pre))) (b:=.bool b4) (Imp.of_eq (by rw[hb4]))<|vk 26 138 (a:=.bool (b4&&(decide (((nth oa 0).2.1)=0)))) (b:=.bool b5) (Imp.of_eq (by rw[hb5]))<|vk 34 146 (a:=.bool (b5&&(decide (((nth oa (((n:Int)-1).toNat)).2.1)=1)))) (b:=.bool b6) (Imp.of_eq (by rw[hb6]))<|v0) (by refine cc _ ?_<|cc _ ?_<|cc _ ?_<|cc _ ?_<|cc _ ?_<|cc _ ?_<|cc _ ?_<|cc _ ?_<|cc _ ?_<|cc _ ?_<|cc _ ?_<|cc _ ?_<|cc _ ?_<|cc _ ?_<|cc _ ?_<|cc _ ?_<|cc _ ?_<|cc _ ?_<|cc _ ?_<|cc _ ?_<|cc _ ?_ c0<;>first|omega|(simp;omega)|(simp;done)|(intros;simp_all;omega)|(intros;simp_all;done)) ?_
     refine Ah ?_
     refine RK wR [(.bool b6)] ?_
     subst hb6 hb5 hb4 hb3 hb2
     have hn1:((n:Int)-1).toNat=n-1:=by omega
     exact Same.of_eq (by simp only[An];rw[hn1,hfa.2.1,hfa.2.2,hfa.1];simp[nth])
end Sv
end
section
open Go Go.RowKit
section
variable {H : Type} {enc : TypeId × Value → H} {P : Program} {W : World}
def Two {α β:Type} (R:α→β→Prop):List α→List β→Prop
  |[],[]=>True
  |a::l,b::m=>R a b∧Two R l m
  |_,_=>False
theorem Two.len {α β:Type} {R:α→β→Prop}:∀{l:List α} {m:List β},Two R l m→m.length=l.length
  |[],[],_=>rfl
  |_::_,_::_,h=>by simp only[List.length_cons,Two.len h.2]
theorem X6r {w:World} {a:Addr} {v:Value} (h:w.cell? a=some v):a.spot=none:=by
  unfold World.cell? at h
  cases hs:a.spot with
  |none=>rfl
  |some k=>rw[hs] at h;split at h<;>simp at h
theorem Yuv {α : Type} {e : TypeId} {sz n : Nat} {a : Addr} (hc : P.cellsOf e = sz) {Q : α → List Value → Prop} {size : α → Nat}
    (each:∀cs' y,cs'.length=sz→DataW.trod enc P W 0 (fun _=>true) true n e cs'=some y→∃x,Q x cs'∧size x≤Rows.uptoBulk y.1) :
    ∀(elems:List (DataW H × List MemPlace)) (i:Nat),(∀j,j < elems.length→(W.cells? 0 (a.add ((i+j)*sz)) sz).bind (DataW.trod enc P W 0 (fun _=>true) true n e)=elems[j]?) →
      ∃(l:List α) (css:List (List Value)),l.length=elems.length∧Two Q l css∧(l.map size).sum≤Rows.uptoBulkAll (elems.map (·.1))∧(∀c∈css,c.length=sz) ∧
        ∀j u,css.flatten[j]? = some u→W.cell? (a.add (i*sz+j))=some u
  |[],i,_=>⟨[],[],rfl,trivial,by simp,by simp,by simp⟩
  |y::r,i,h=>by
    have h0:=h 0 (by simp)
    simp only[Nat.add_zero,List.getElem?_cons_zero] at h0
    obtain⟨cs',h1,h2⟩:=Option.bind_eq_some_iff.1 h0
    obtain⟨_,hl,hcs⟩:=World.cells?_some h1
    obtain⟨x,hx,hs⟩:=each cs' y hl h2
    obtain⟨l,css,e1,e2,e3,e4,e5⟩:=Yuv hc each r (i+1) (fun j hj=>by
      have:=h (j+1) (by simpa using hj)
      rw[show i+(j+1)=i+1+j by omega] at this
      simpa using this)
    refine⟨x::l,cs'::css,by simp[e1],⟨hx,e2⟩,?_,?_,?_⟩
    · simp only[List.map_cons,List.sum_cons,Rows.uptoBulkAll];omega
    · intro c hc';rcases List.mem_cons.1 hc' with rfl|hc'
      · exact hl
      · exact e4 c hc'
    · intro j u hu
      rw[List.flatten_cons] at hu
      by_cases hj:j < sz
      · rw[List.getElem?_append_left (by omega)] at hu
        have:=hcs j hj
        rw[hu] at this
        rw[←this]
        congr 1
        show a.add (i*sz+j)=(a.add (i*sz)).add j
        unfold Addr.add
        by_cases h1:i*sz=0<;>by_cases h2:j=0<;>simp[h1,h2,Nat.add_assoc]
      · rw[List.getElem?_append_right (by omega),hl] at hu
        have:=e5 (j-sz) u hu
        rw[←this];congr 2
        have:(i+1)*sz=i*sz+sz:=by rw[Nat.add_mul,Nat.one_mul]
        omega
theorem Q9c {α : Type} {t e : TypeId} {sz fuel : Nat} {cs : List Value} {y : DataW H × List MemPlace} (ht : P.underlying t = some (.slice e)) (hc : P.cellsOf e = sz) (hsz : 0 < sz) {Q : α → List Value → Prop} {size : α → Nat}
    (each:∀n cs' y,n < fuel→cs'.length=sz→DataW.trod enc P W 0 (fun _=>true) true n e cs'=some y→∃x,Q x cs'∧size x≤Rows.uptoBulk y.1) (h:DataW.trod enc P W 0 (fun _=>true) true fuel t cs=some y) :
    ∃(v:Value) (l:List α) (css:List (List Value)),cs=[v]∧RowIs W v l.length sz css.flatten∧Two Q l css∧(∀c∈css,c.length=sz)∧(l.map size).sum+1≤Rows.uptoBulk y.1:=by
  rcases DataW.trod_slice ht h with⟨rfl,rfl⟩|⟨a,len,cap,elems,rest,n,hf,rfl,rfl,_,_,_,hlen,hel,_,_⟩
  · exact⟨_,[],[],rfl,⟨by simp,.inl ⟨rfl,_,_,rfl⟩⟩,trivial,by simp,by simp[Rows.uptoBulk]⟩
  · subst hc
    obtain⟨l,css,e1,e2,e3,e4,e5⟩:=Yuv (a:=a) rfl (each n · · (by omega)) elems 0 (fun j hj=>by rw[Nat.zero_add];exact hel j (by omega))
    have hfl:css.flatten.length=l.length*P.cellsOf e:=by
      rw[←e2.len,List.length_flatten]
      clear e5 e2 e1
      induction css with
      |nil=>simp
      |cons c r ih=>simp only[List.map_cons,List.sum_cons,List.length_cons];rw[ih (fun c hc=>e4 c (by simp[hc])),e4 c (by simp),Nat.add_mul];omega
    refine⟨_,l,css,rfl,⟨hfl,?_⟩,e2,e4,by simp only[Rows.uptoBulk];omega⟩
    by_cases hn:l.length=0
    · exact .inl ⟨hn,some a,cap,by rw[←hlen,←e1,hn]⟩
    · right
      have hp:0 < css.flatten.length:=by rw[hfl];exact Nat.mul_pos (by omega) hsz
      have hsp:=X6r (a:=a) (by have:=e5 0 _ (List.getElem?_eq_getElem hp);rw[Nat.zero_mul] at this;exact this)
      obtain⟨b,o,sp⟩:=a
      simp only at hsp;subst hsp
      refine⟨b,o,cap,by rw[←hlen,←e1],fun j u hu=>?_⟩
      have:=e5 j u hu
      rw[Nat.zero_mul,Nat.zero_add] at this
      rw[←this];congr 1
      unfold Addr.add;split<;>simp_all
end
section
variable {H : Type} {enc : TypeId × Value → H} {W : World}
theorem J3 (s:ByteArray):Value.string s=S s.data.toList:=by simp[S]
theorem Q32v (l:List DepT):(l.map DepT.size).sum=argsSize l:=by
  induction l with
  |nil=>rfl
  |cons d r ih=>simp only[List.map_cons,List.sum_cons,argsSize,ih]
end
end
section
open Go Go.RowKit
namespace Sv
def Ex (W:World):Nat→Option Obj:=fun b=>W.heap[b]?
theorem X14v (W:World):Fro (Ex W) W:=fun _ _ e=>e
theorem Q3bv {w:World} {b k:Nat} {v:Value} (h:w.cell? ⟨b,k,none⟩=some v):∃cs e fr,w.heap[b]? = some (.cells cs e fr)∧cs[k]? = some v:=by
  unfold World.cell? at h
  split at h
  · rename_i c e fr hb
    exact⟨c,e,fr,hb,by simpa using h⟩
  · cases h
theorem Oxv {α:Type} [Inhabited α] {R:α→List Value→Prop}:∀{l:List α} {m:List (List Value)},Two R l m→∀{i},i < l.length→R (Go.Proofs.YtlmloohlmlahfaaGreatDoor.nth l i) (Go.Proofs.YtlmloohlmlahfaaGreatDoor.nth m i)
  |[],[],_,i,h=>by simp at h
  |_::_,[],h,_,_=>h.elim
  |a::l,b::m,h,0,_=>h.1
  |a::l,b::m,h,i+1,hi=>Oxv (l:=l) (m:=m) h.2 (by simpa using hi)
section
variable {H : Type} {enc : TypeId × Value → H} {P : Program} {W : World}
theorem Lwv {α : Type} [Inhabited α] {t e : TypeId} {sz fuel : Nat} {cs : List Value} {y : DataW H × List MemPlace} (ht : P.underlying t = some (.slice e)) (hc : P.cellsOf e = sz) (hsz : 0 < sz) {f : α → AV} {size : α → Nat} (wrap : List Value → Value)
    (hw:∀cs',cs'.length=sz→(∀c∈cs',c.oneCell'=true)→(wrap cs').cells.toList=cs')
    (each:∀n cs' y,n < fuel→cs'.length=sz→DataW.trod enc P W 0 (fun _=>true) true n e cs'=some y→∃x,(VR (ofF (Ex W)) (f x) (wrap cs')∧∀c∈cs',c.oneCell'=true)∧size x≤Rows.uptoBulk y.1) (h:DataW.trod enc P W 0 (fun _=>true) true fuel t cs=some y) :
    ∃(v:Value) (l:List α),cs=[v]∧VR (ofF (Ex W)) (Ac sz f l) v∧(l.map size).sum+1≤Rows.uptoBulk y.1:=by
  obtain⟨v,l,css,rfl,hr,h2,h4,h5⟩:=Q9c (Q:=fun x cs'=>VR (ofF (Ex W)) (f x) (wrap cs')∧∀c∈cs',c.oneCell'=true) ht hc hsz each h
  refine⟨v,l,rfl,?_,h5⟩
  have hshape:v = .slice none 0 0∨∃a n c,v = .slice (some a) n c∧n≤c:=by
    rcases DataW.trod_slice ht h with⟨e,_⟩|⟨a,len,cap,_,_,_,_,e,_,_,hle,_⟩
    · left;simpa using e
    · right;exact⟨a,len,cap,by simpa using e,hle⟩
  unfold Ac
  simp only[VR]
  have hlen:=h2.len
  refine⟨fun i=>wrap (nth css i),fun i hi=>(Oxv h2 hi).1,?_⟩
  rcases hr.2 with⟨h0,a,c,rfl⟩|⟨b,o,c,rfl,hcell⟩
  · refine .inl ⟨h0,?_⟩
    rcases hshape with e|⟨a',n,c',e,_⟩
    · exact .inl e
    · cases e;exact .inr ⟨a',c,rfl⟩
  · have hnc : l.length ≤ c := by
      rcases hshape with e|⟨a',n,c',e,hle⟩
      · cases e
      · cases e;exact hle
    refine .inr ⟨b,o,c,rfl,hnc,fun i hi=>?_⟩
    have hmem:nth css i∈css:=Jov (by omega)
    have hwr:=hw _ (h4 _ hmem) (Oxv h2 hi).2
    have hat:∀j,j < sz→css.flatten[i*sz+j]? = (nth css i)[j]? := fun j hj=>Qg (sz:=sz) css i j h4 (by omega) hj
    refine⟨by rw[←Array.length_toList,hwr];exact h4 _ hmem,?_⟩
    rw[hwr]
    have hl:=h4 _ hmem
    obtain⟨cs0,e0,fr0,k1,_⟩:=Q3bv (hcell (i*sz+0) _ ((hat 0 hsz).trans (List.getElem?_eq_getElem (show 0 < (nth css i).length by omega))))
    refine⟨cs0,e0,fr0,k1,fun j u hu=>?_⟩
    have hj:j < sz:=by have:=(List.getElem?_eq_some_iff.1 hu).1;omega
    obtain⟨cs1,e1,fr1,k2,k3⟩:=Q3bv (hcell (i*sz+j) u ((hat j hj).trans hu))
    rw[k1] at k2;cases k2
    exact⟨by rw[Nat.add_assoc];exact k3,(Oxv h2 hi).2 u (List.mem_of_getElem? hu)⟩
set_option maxRecDepth 100000 in
theorem Yv:∀(fuel:Nat) (cs:List Value) (x:DataW H × List MemPlace),DataW.trod enc Tryz.prog W 0 (fun _=>true) true fuel 25 cs=some x→∃d:DepT,(VR (ofF (Ex W)) (Ak d) (.agg cs.toArray)∧∀c∈cs,c.oneCell'=true)∧d.size≤Rows.uptoBulk x.1:=by
  intro fuel
  induction fuel using Nat.strongRecOn with
  |ind fuel ih =>
  intro cs x h
  obtain⟨xs,n,hf,rfl,hl,hxs,hfs⟩:=DataW.trod_struct Tryz.underlying25 h
  have hl':cs.length=5:=hl.trans (by kernel_rfl)
  match cs,hl' with
  |[c0,c1,c2,c3,c4],_ =>
  match xs,hxs with
  |[y0,y1,y2,y3,y4],_ =>
  have g0:DataW.trod enc Tryz.prog W 0 (fun _=>true) true n 3 (([c0,c1,c2,c3,c4].drop 0).take (Tryz.prog.cellsOf 3))=some y0:=hfs 0 _ rfl
  have g1:DataW.trod enc Tryz.prog W 0 (fun _=>true) true n 9 (([c0,c1,c2,c3,c4].drop 1).take (Tryz.prog.cellsOf 9))=some y1:=hfs 1 _ rfl
  have g2:DataW.trod enc Tryz.prog W 0 (fun _=>true) true n 3 (([c0,c1,c2,c3,c4].drop 2).take (Tryz.prog.cellsOf 3))=some y2:=hfs 2 _ rfl
  have g3:DataW.trod enc Tryz.prog W 0 (fun _=>true) true n 9 (([c0,c1,c2,c3,c4].drop 3).take (Tryz.prog.cellsOf 9))=some y3:=hfs 3 _ rfl
  have g4:DataW.trod enc Tryz.prog W 0 (fun _=>true) true n 23 (([c0,c1,c2,c3,c4].drop 4).take (Tryz.prog.cellsOf 23))=some y4:=hfs 4 _ rfl
  have k1:Tryz.prog.cellsOf 3=1:=by kernel_rfl
  have k2:Tryz.prog.cellsOf 9=1:=by kernel_rfl
  have k3:Tryz.prog.cellsOf 23=1:=by kernel_rfl
  have k4:Tryz.prog.cellsOf 25=5:=by kernel_rfl
  rw[k1] at g0 g2;rw[k2] at g1 g3;rw[k3] at g4
  simp only[List.drop_zero,List.drop_succ_cons,List.take_succ_cons,List.take_zero] at g0 g1 g2 g3 g4
  obtain⟨k,e0,rfl,_⟩:=DataW.trod_int Tryz.underlying3 g0
  obtain⟨nm,e1,rfl,_⟩:=DataW.trod_string Tryz.underlying9 g1
  obtain⟨op,e2,rfl,_⟩:=DataW.trod_int Tryz.underlying3 g2
  obtain⟨ev,e3,rfl,_⟩:=DataW.trod_string Tryz.underlying9 g3
  obtain⟨v,l,e4,hr,hb⟩:=Lwv (f:=Ak) (size:=DepT.size) Tryz.underlying23 k4 (by omega) (fun cs => .agg cs.toArray) (fun cs' _ _=>by simp[Value.cells]) (fun n' cs' y hn _ hy=>ih n' (by omega) cs' y hy) g4
  have hsl:v.oneCell'=true:=by
    have hr':=hr
    unfold Ac at hr'
    simp only[VR] at hr'
    obtain⟨u,_,h0|⟨b,o,c,rfl,_⟩⟩:=hr'
    · rcases h0 with⟨_,rfl|⟨a,c,rfl⟩⟩<;>rfl
    · rfl
  simp only[List.cons.injEq,and_true] at e0 e1 e2 e3 e4
  subst e0 e1 e2 e3 e4
  refine⟨.mk k nm.data.toList op ev.data.toList l,⟨?_,?_⟩,?_⟩
  · refine Q2z _ _ _ ?_
    simp only[VR]
    refine⟨_,.cons (by simp only[VR];rfl) (.cons (by simp only[VR];exact J3 nm) (.cons (by simp only[VR];rfl) (.cons (by simp only[VR];exact J3 ev) (.cons hr .nil)))),rfl⟩
  · intro c hc
    simp only[List.mem_cons,List.not_mem_nil,or_false] at hc
    rcases hc with rfl|rfl|rfl|rfl|rfl
    · rfl
    · rfl
    · rfl
    · rfl
    · exact hsl
  · rw[Q32v] at hb
    simp only[DepT.size,List.map_cons,List.map_nil,Rows.uptoBulk,Rows.uptoBulkAll]
    omega
set_option maxRecDepth 100000 in
theorem open_depV {r : Reach} {b0 : Nat} {v : Value} {d : DataW H} {p : List MemPlace} (hv : Value.okWide Tryz.prog W r b0 25 v) (h : DataW.Trod enc Tryz.prog W 0 (fun _ => true) true 25 v d p) :
    ∃t:DepT,VR (ofF (Ex W)) (Ak t) v∧t.size≤Rows.uptoBulk d:=by
  obtain⟨cs,rfl,_⟩:=Go.WideShapes.okWide_struct Tryz.underlying25 hv
  obtain⟨fuel,hf⟩:=h
  obtain⟨t,h1,h2⟩:=Yv fuel _ _ hf
  exact⟨t,by have:=h1.1;simpa [Value.cells] using this,h2⟩
end
theorem FnV.calls {P:Program} {f:Nat} {al:List AV} {W:World} {vs:List Value} (h:FnV P f al (.bool true)) (hv:VRl (ofF (Ex W)) al vs):Calls P f vs.toArray W (Ret fun v w'=>v = .bool true∧Below W.heap.size W w') :=
  (h (Ex W) W vs (X14v W) hv).mono fun e w' hh=>by
    obtain⟨v,he,hb,F',_,_,_,k⟩:=hh
    simp only[VR] at k
    exact⟨v,he,k,hb⟩
end Sv
end
section
open Go Go.RowKit
namespace Sv
section
variable {H : Type} {enc : TypeId × Value → H} {W : World}
theorem Yx {v:Value} (h:v.oneCell'=true):v.cells.toList=[v]:=by cases v<;>simp_all [Value.cells,Value.oneCell']
theorem Ip {sz n:Nat} {g:Nat→AV} {v:Value} (h:VR (ofF (Ex W)) (.row sz n g) v):v.oneCell'=true:=by
 simp only[VR] at h
 obtain⟨u,_,h0|⟨b,o,c,rfl,_⟩⟩:=h
 ·rcases h0 with⟨_,rfl|⟨a,c,rfl⟩⟩<;>rfl
 ·rfl
theorem X2k (l:List (List UInt8)):(l.map fun x=>x.length+1).sum=G7 l:=by
 induction l with
 |nil=>rfl
 |cons d r ih=>simp only[List.map_cons,List.sum_cons,G7,ih];omega
theorem Q86 {fuel : Nat} {cs : List Value} {y : DataW H × List MemPlace} (h : DataW.trod enc Tryz.prog W 0 (fun _ => true) true fuel 36 cs = some y) :
  ∃(v:Value) (l:List (List UInt8)),cs=[v]∧VR (ofF (Ex W)) (C4 l) v∧G7 l+1≤Rows.uptoBulk y.1:=by
 obtain⟨v,l,h1,h2,h3⟩:=Lwv (f:=AV.str) (size:=fun x=>x.length+1) (sz:=1) Tryz.underlying36 (show Tryz.prog.cellsOf 9=1 by kernel_rfl) (by omega) (fun cs=>cs.headD undef) (fun cs' hl ho=>by
  match cs',hl with
  |[c],_=>exact Yx (ho c (by simp))) (fun n cs' y _ hl hy=>by
  obtain⟨s,e,rfl,_⟩:=DataW.trod_string Tryz.underlying9 hy
  subst e
  exact⟨s.data.toList,⟨by first|(simp only[VR,List.headD];done)|(simp only[VR,List.headD];exact J3 s),by intro c hc;simp at hc;subst hc;rfl⟩,by simp[Rows.uptoBulk]⟩) h
 exact⟨v,l,h1,h2,by rw[X2k] at h3;exact h3⟩
theorem Q9ev {α:Type} (l:List α):(l.map fun _=>1).sum=l.length:=by
 induction l with
 |nil=>rfl
 |cons d r ih=>simp only[List.map_cons,List.sum_cons,List.length_cons,ih];omega
abbrev I64v:={ x:Int // -9223372036854775808≤x∧x≤9223372036854775807 }
instance:Inhabited I64v:=⟨⟨0,by decide⟩⟩
theorem X1qv {n:Int} (h:(Lit.int .i64 n).wf=true) : -9223372036854775808≤n∧n≤9223372036854775807:=by
 simp only[Lit.wf,Bool.and_eq_true,decide_eq_true_eq] at h
 rw[show IntKind.min .i64 = -9223372036854775808 by kernel_rfl,show IntKind.max .i64=9223372036854775807 by kernel_rfl] at h
 exact h
theorem Q9b {fuel : Nat} {cs : List Value} {y : DataW H × List MemPlace} (h : DataW.trod enc Tryz.prog W 0 (fun _ => true) true fuel 26 cs = some y) :
  ∃(v:Value) (l:List Int),cs=[v]∧VR (ofF (Ex W)) (Ag l) v∧l.length+1≤Rows.uptoBulk y.1∧∀i,i < l.length → -9223372036854775808≤nth l i∧nth l i≤9223372036854775807:=by
 obtain⟨v,l,h1,h2,h3⟩:=Lwv (α:=I64v) (f:=fun x=>AV.int .i64 x.1) (size:=fun _=>1) (sz:=1) Tryz.underlying26 (show Tryz.prog.cellsOf 3=1 by kernel_rfl) (by omega) (fun cs=>cs.headD undef) (fun cs' hl ho=>by
  match cs',hl with
  |[c],_=>exact Yx (ho c (by simp))) (fun n cs' y _ hl hy=>by
  obtain⟨s,e,rfl,hw⟩:=DataW.trod_int Tryz.underlying3 hy
  subst e
  exact⟨⟨s,X1qv hw⟩,⟨by simp only[VR,List.headD],by intro c hc;simp at hc;subst hc;rfl⟩,by simp[Rows.uptoBulk]⟩) h
 have hn:∀i,i < l.length→nth (l.map Subtype.val) i=(nth l i).1:=fun i hi=>by simp[nth,hi]
 refine⟨v,l.map Subtype.val,h1,?_,by rw[List.length_map];rw[Q9ev] at h3;exact h3,fun i hi=>?_⟩
 ·refine Imp.trans (b:=.row 1 (l.map Subtype.val).length (fun i => .int .i64 (nth l i).1)) ?_ (Imp.row fun i hi=>Imp.of_eq (by rw[hn i (by simpa using hi)])) _ _ h2
  rw[List.length_map];exact Imp.refl
 ·rw[List.length_map] at hi
  rw[hn i hi];exact(nth l i).2
theorem Kl {fuel : Nat} {cs : List Value} {y : DataW H × List MemPlace} (h : DataW.trod enc Tryz.prog W 0 (fun _ => true) true fuel 23 cs = some y) :
  ∃(v:Value) (l:List DepT),cs=[v]∧VR (ofF (Ex W)) (Dy l) v∧argsSize l+1≤Rows.uptoBulk y.1:=by
 obtain⟨v,l,h1,h2,h3⟩:=Lwv (f:=Ak) (size:=DepT.size) Tryz.underlying23 (show Tryz.prog.cellsOf 25=5 by kernel_rfl) (by omega) (fun cs => .agg cs.toArray) (fun cs' _ _=>by simp[Value.cells]) (fun n cs' y _ _ hy=>Yv n cs' y hy) h
 exact⟨v,l,h1,h2,by rw[Q32v] at h3;exact h3⟩
set_option maxHeartbeats 1000000 in
set_option maxRecDepth 100000 in
theorem Q9a {fuel:Nat} {cs:List Value} {x:DataW H × List MemPlace} (h:DataW.trod enc Tryz.prog W 0 (fun _=>true) true fuel 38 cs=some x):∃d:PkgT,(VR (ofF (Ex W)) (Ar d) (.agg cs.toArray)∧∀c∈cs,c.oneCell'=true)∧d.size+1≤Rows.uptoBulk x.1:=by
 obtain⟨xs,n,hf,rfl,hl,hxs,hfs⟩:=DataW.trod_struct Tryz.underlying38 h
 have hl':cs.length=12:=hl.trans (by kernel_rfl)
 match cs,hl' with
 |[c0,c1,c2,c3,c4,c5,c6,c7,c8,c9,c10,c11],_ =>
 match xs,hxs with
 |[y0,y1,y2,y3,y4,y5,y6,y7,y8,y9,y10,y11],_ =>
 have g0:DataW.trod enc Tryz.prog W 0 (fun _=>true) true n 9 [c0]=some y0:=by
  have g:DataW.trod enc Tryz.prog W 0 (fun _=>true) true n 9 (([c0,c1,c2,c3,c4,c5,c6,c7,c8,c9,c10,c11].drop 0).take (Tryz.prog.cellsOf 9))=some y0:=hfs 0 _ rfl
  rw[show Tryz.prog.cellsOf 9=1 by kernel_rfl] at g
  exact g
 have g1:DataW.trod enc Tryz.prog W 0 (fun _=>true) true n 9 [c1]=some y1:=by
  have g:DataW.trod enc Tryz.prog W 0 (fun _=>true) true n 9 (([c0,c1,c2,c3,c4,c5,c6,c7,c8,c9,c10,c11].drop 1).take (Tryz.prog.cellsOf 9))=some y1:=hfs 1 _ rfl
  rw[show Tryz.prog.cellsOf 9=1 by kernel_rfl] at g
  exact g
 have g2:DataW.trod enc Tryz.prog W 0 (fun _=>true) true n 9 [c2]=some y2:=by
  have g:DataW.trod enc Tryz.prog W 0 (fun _=>true) true n 9 (([c0,c1,c2,c3,c4,c5,c6,c7,c8,c9,c10,c11].drop 2).take (Tryz.prog.cellsOf 9))=some y2:=hfs 2 _ rfl
  rw[show Tryz.prog.cellsOf 9=1 by kernel_rfl] at g
  exact g
 have g3:DataW.trod enc Tryz.prog W 0 (fun _=>true) true n 9 [c3]=some y3:=by
  have g:DataW.trod enc Tryz.prog W 0 (fun _=>true) true n 9 (([c0,c1,c2,c3,c4,c5,c6,c7,c8,c9,c10,c11].drop 3).take (Tryz.prog.cellsOf 9))=some y3:=hfs 3 _ rfl
  rw[show Tryz.prog.cellsOf 9=1 by kernel_rfl] at g
  exact g
 have g4:DataW.trod enc Tryz.prog W 0 (fun _=>true) true n 23 [c4]=some y4:=by
  have g:DataW.trod enc Tryz.prog W 0 (fun _=>true) true n 23 (([c0,c1,c2,c3,c4,c5,c6,c7,c8,c9,c10,c11].drop 4).take (Tryz.prog.cellsOf 23))=some y4:=hfs 4 _ rfl
  rw[show Tryz.prog.cellsOf 23=1 by kernel_rfl] at g
  exact g
 have g5:DataW.trod enc Tryz.prog W 0 (fun _=>true) true n 23 [c5]=some y5:=by
  have g:DataW.trod enc Tryz.prog W 0 (fun _=>true) true n 23 (([c0,c1,c2,c3,c4,c5,c6,c7,c8,c9,c10,c11].drop 5).take (Tryz.prog.cellsOf 23))=some y5:=hfs 5 _ rfl
  rw[show Tryz.prog.cellsOf 23=1 by kernel_rfl] at g
  exact g
 have g6:DataW.trod enc Tryz.prog W 0 (fun _=>true) true n 23 [c6]=some y6:=by
  have g:DataW.trod enc Tryz.prog W 0 (fun _=>true) true n 23 (([c0,c1,c2,c3,c4,c5,c6,c7,c8,c9,c10,c11].drop 6).take (Tryz.prog.cellsOf 23))=some y6:=hfs 6 _ rfl
  rw[show Tryz.prog.cellsOf 23=1 by kernel_rfl] at g
  exact g
 have g7:DataW.trod enc Tryz.prog W 0 (fun _=>true) true n 23 [c7]=some y7:=by
  have g:DataW.trod enc Tryz.prog W 0 (fun _=>true) true n 23 (([c0,c1,c2,c3,c4,c5,c6,c7,c8,c9,c10,c11].drop 7).take (Tryz.prog.cellsOf 23))=some y7:=hfs 7 _ rfl
  rw[show Tryz.prog.cellsOf 23=1 by kernel_rfl] at g
  exact g
 have g8:DataW.trod enc Tryz.prog W 0 (fun _=>true) true n 23 [c8]=some y8:=by
  have g:DataW.trod enc Tryz.prog W 0 (fun _=>true) true n 23 (([c0,c1,c2,c3,c4,c5,c6,c7,c8,c9,c10,c11].drop 8).take (Tryz.prog.cellsOf 23))=some y8:=hfs 8 _ rfl
  rw[show Tryz.prog.cellsOf 23=1 by kernel_rfl] at g
  exact g
 have g9:DataW.trod enc Tryz.prog W 0 (fun _=>true) true n 23 [c9]=some y9:=by
  have g:DataW.trod enc Tryz.prog W 0 (fun _=>true) true n 23 (([c0,c1,c2,c3,c4,c5,c6,c7,c8,c9,c10,c11].drop 9).take (Tryz.prog.cellsOf 23))=some y9:=hfs 9 _ rfl
  rw[show Tryz.prog.cellsOf 23=1 by kernel_rfl] at g
  exact g
 have g10:DataW.trod enc Tryz.prog W 0 (fun _=>true) true n 23 [c10]=some y10:=by
  have g:DataW.trod enc Tryz.prog W 0 (fun _=>true) true n 23 (([c0,c1,c2,c3,c4,c5,c6,c7,c8,c9,c10,c11].drop 10).take (Tryz.prog.cellsOf 23))=some y10:=hfs 10 _ rfl
  rw[show Tryz.prog.cellsOf 23=1 by kernel_rfl] at g
  exact g
 have g11:DataW.trod enc Tryz.prog W 0 (fun _=>true) true n 36 [c11]=some y11:=by
  have g:DataW.trod enc Tryz.prog W 0 (fun _=>true) true n 36 (([c0,c1,c2,c3,c4,c5,c6,c7,c8,c9,c10,c11].drop 11).take (Tryz.prog.cellsOf 36))=some y11:=hfs 11 _ rfl
  rw[show Tryz.prog.cellsOf 36=1 by kernel_rfl] at g
  exact g
 obtain⟨s0,e0,rfl,_⟩:=DataW.trod_string Tryz.underlying9 g0
 obtain⟨s1,e1,rfl,_⟩:=DataW.trod_string Tryz.underlying9 g1
 obtain⟨s2,e2,rfl,_⟩:=DataW.trod_string Tryz.underlying9 g2
 obtain⟨s3,e3,rfl,_⟩:=DataW.trod_string Tryz.underlying9 g3
 obtain⟨w4,s4,e4,r4,b4⟩:=Kl g4
 obtain⟨w5,s5,e5,r5,b5⟩:=Kl g5
 obtain⟨w6,s6,e6,r6,b6⟩:=Kl g6
 obtain⟨w7,s7,e7,r7,b7⟩:=Kl g7
 obtain⟨w8,s8,e8,r8,b8⟩:=Kl g8
 obtain⟨w9,s9,e9,r9,b9⟩:=Kl g9
 obtain⟨w10,s10,e10,r10,b10⟩:=Kl g10
 obtain⟨w11,s11,e11,r11,b11⟩:=Q86 g11
 simp only[List.cons.injEq,and_true] at e0 e1 e2 e3 e4 e5 e6 e7 e8 e9 e10 e11
 subst e0 e1 e2 e3 e4 e5 e6 e7 e8 e9 e10 e11
 refine⟨⟨s0.data.toList,s1.data.toList,s2.data.toList,s3.data.toList,s4,s5,s6,s7,s8,s9,s10,s11⟩,⟨?_,?_⟩,?_⟩
 ·unfold Ar
  simp only[VR]
  exact⟨_,.cons (by first|(simp only[VR];done)|(simp only[VR];exact J3 s0)) (.cons (by first|(simp only[VR];done)|(simp only[VR];exact J3 s1)) (.cons (by first|(simp only[VR];done)|(simp only[VR];exact J3 s2)) (.cons (by first|(simp only[VR];done)|(simp only[VR];exact J3 s3)) (.cons r4 (.cons r5 (.cons r6 (.cons r7 (.cons r8 (.cons r9 (.cons r10 (.cons r11 (.nil)))))))))))),rfl⟩
 ·intro c hc
  simp only[List.mem_cons,List.not_mem_nil,or_false] at hc
  rcases hc with rfl|rfl|rfl|rfl|rfl|rfl|rfl|rfl|rfl|rfl|rfl|rfl
  ·exact rfl
  ·exact rfl
  ·exact rfl
  ·exact rfl
  ·exact Ip r4
  ·exact Ip r5
  ·exact Ip r6
  ·exact Ip r7
  ·exact Ip r8
  ·exact Ip r9
  ·exact Ip r10
  ·exact Ip r11
 ·simp only[PkgT.size,PkgT.depSize,List.map_cons,List.map_nil,Rows.uptoBulk,Rows.uptoBulkAll]
  omega
theorem Q77v (l:List PkgT):(l.map fun p=>p.size+1).sum=Fy l:=by
 induction l with
 |nil=>rfl
 |cons d r ih=>simp only[List.map_cons,List.sum_cons,Fy,ih];omega
theorem Q89 {fuel : Nat} {cs : List Value} {y : DataW H × List MemPlace} (h : DataW.trod enc Tryz.prog W 0 (fun _ => true) true fuel 39 cs = some y) :
  ∃(v:Value) (l:List PkgT),cs=[v]∧VR (ofF (Ex W)) (Ac 12 Ar l) v∧Fy l+1≤Rows.uptoBulk y.1:=by
 obtain⟨v,l,h1,h2,h3⟩:=Lwv (f:=Ar) (size:=fun p=>p.size+1) Tryz.underlying39 (show Tryz.prog.cellsOf 38=12 by kernel_rfl) (by omega) (fun cs => .agg cs.toArray) (fun cs' _ _=>by simp[Value.cells]) (fun n cs' y _ _ hy=>by
  obtain⟨d,h1,h2⟩:=Q9a hy
  exact⟨d,h1,h2⟩) h
 exact⟨v,l,h1,h2,by rw[Q77v] at h3;exact h3⟩
set_option maxHeartbeats 1000000 in
set_option maxRecDepth 100000 in
theorem Q88 {fuel:Nat} {cs:List Value} {x:DataW H × List MemPlace} (h:DataW.trod enc Tryz.prog W 0 (fun _=>true) true fuel 41 cs=some x):∃d:RepoT,(VR (ofF (Ex W)) (Bf d) (.agg cs.toArray)∧∀c∈cs,c.oneCell'=true)∧d.size+1≤Rows.uptoBulk x.1:=by
 obtain⟨xs,n,hf,rfl,hl,hxs,hfs⟩:=DataW.trod_struct Tryz.underlying41 h
 have hl':cs.length=4:=hl.trans (by kernel_rfl)
 match cs,hl' with
 |[c0,c1,c2,c3],_ =>
 match xs,hxs with
 |[y0,y1,y2,y3],_ =>
 have g0:DataW.trod enc Tryz.prog W 0 (fun _=>true) true n 9 [c0]=some y0:=by
  have g:DataW.trod enc Tryz.prog W 0 (fun _=>true) true n 9 (([c0,c1,c2,c3].drop 0).take (Tryz.prog.cellsOf 9))=some y0:=hfs 0 _ rfl
  rw[show Tryz.prog.cellsOf 9=1 by kernel_rfl] at g
  exact g
 have g1:DataW.trod enc Tryz.prog W 0 (fun _=>true) true n 3 [c1]=some y1:=by
  have g:DataW.trod enc Tryz.prog W 0 (fun _=>true) true n 3 (([c0,c1,c2,c3].drop 1).take (Tryz.prog.cellsOf 3))=some y1:=hfs 1 _ rfl
  rw[show Tryz.prog.cellsOf 3=1 by kernel_rfl] at g
  exact g
 have g2:DataW.trod enc Tryz.prog W 0 (fun _=>true) true n 4 [c2]=some y2:=by
  have g:DataW.trod enc Tryz.prog W 0 (fun _=>true) true n 4 (([c0,c1,c2,c3].drop 2).take (Tryz.prog.cellsOf 4))=some y2:=hfs 2 _ rfl
  rw[show Tryz.prog.cellsOf 4=1 by kernel_rfl] at g
  exact g
 have g3:DataW.trod enc Tryz.prog W 0 (fun _=>true) true n 39 [c3]=some y3:=by
  have g:DataW.trod enc Tryz.prog W 0 (fun _=>true) true n 39 (([c0,c1,c2,c3].drop 3).take (Tryz.prog.cellsOf 39))=some y3:=hfs 3 _ rfl
  rw[show Tryz.prog.cellsOf 39=1 by kernel_rfl] at g
  exact g
 obtain⟨s0,e0,rfl,_⟩:=DataW.trod_string Tryz.underlying9 g0
 obtain⟨s1,e1,rfl,_⟩:=DataW.trod_int Tryz.underlying3 g1
 obtain⟨s2,e2,rfl⟩:=DataW.trod_bool Tryz.underlying4 g2
 obtain⟨w3,s3,e3,r3,b3⟩:=Q89 g3
 simp only[List.cons.injEq,and_true] at e0 e1 e2 e3
 subst e0 e1 e2 e3
 refine⟨⟨s0.data.toList,s1,s2,s3⟩,⟨?_,?_⟩,?_⟩
 ·unfold Bf
  simp only[VR]
  exact⟨_,.cons (by first|(simp only[VR];done)|(simp only[VR];exact J3 s0)) (.cons (by simp only[VR]) (.cons (by simp only[VR]) (.cons r3 (.nil)))),rfl⟩
 ·intro c hc
  simp only[List.mem_cons,List.not_mem_nil,or_false] at hc
  rcases hc with rfl|rfl|rfl|rfl
  ·exact rfl
  ·exact rfl
  ·exact rfl
  ·exact Ip r3
 ·simp only[RepoT.size,List.map_cons,List.map_nil,Rows.uptoBulk,Rows.uptoBulkAll]
  omega
theorem Q87 {fuel : Nat} {cs : List Value} {y : DataW H × List MemPlace} (h : DataW.trod enc Tryz.prog W 0 (fun _ => true) true fuel 22 cs = some y) :
  ∃(v:Value) (l:List RepoT),cs=[v]∧VR (ofF (Ex W)) (Ac 4 Bf l) v∧(l.map RepoT.size).sum+1≤Rows.uptoBulk y.1 :=
 Lwv (f:=Bf) (size:=RepoT.size) Tryz.underlying22 (show Tryz.prog.cellsOf 41=4 by kernel_rfl) (by omega) (fun cs => .agg cs.toArray) (fun cs' _ _=>by simp[Value.cells]) (fun n cs' y _ _ hy=>by
  obtain⟨d,h1,h2⟩:=Q88 hy
  exact⟨d,h1,by omega⟩) h
theorem Q52 {l:List RepoT}:∀{i:Nat},i < l.length→(nth l i).size≤(l.map RepoT.size).sum:=by
 induction l with
 |nil=>intro i h;simp at h
 |cons r l ih =>
  intro i h
  cases i with
  |zero=>simp only[List.map_cons,List.sum_cons];show r.size≤_;omega
  |succ i =>
   have:=ih (i:=i) (by simpa using h)
   simp only[List.map_cons,List.sum_cons];show(nth l i).size≤_;omega
theorem Wlv:∀l:List RepoT,l.length≤(l.map RepoT.size).sum
 |[]=>Nat.le_refl _
 |r::l=>by
  have:=Wlv l
  have:1≤r.size:=by unfold RepoT.size;omega
  simp only[List.map_cons,List.sum_cons,List.length_cons];omega
set_option maxRecDepth 100000 in
theorem open_repos {r : Reach} {b0 : Nat} {v : Value} {d : DataW H} {p : List MemPlace} (hv : Value.okWide Tryz.prog W r b0 22 v) (h : DataW.Trod enc Tryz.prog W 0 (fun _ => true) true 22 v d p) :
  ∃l:List RepoT,VR (ofF (Ex W)) (Ac 4 Bf l) v∧l.length≤Rows.uptoBulk d∧∀i,i < l.length→(nth l i).size≤Rows.uptoBulk d:=by
 obtain⟨a,len,cap,rfl⟩:=Go.WideShapes.okWide_slice Tryz.underlying22 hv
 obtain⟨fuel,hf⟩:=h
 obtain⟨v,l,h1,h2,h3⟩:=Q87 hf
 have e:Value.slice a len cap=v:=by simpa [Value.cells] using h1
 subst e
 have h3:(l.map RepoT.size).sum+1≤Rows.uptoBulk d:=h3
 exact⟨l,h2,by have:=Wlv l;omega,fun i hi=>by have:=Q52 hi;omega⟩
set_option maxRecDepth 100000 in
theorem open_nums {r : Reach} {b0 : Nat} {v : Value} {d : DataW H} {p : List MemPlace} (hv : Value.okWide Tryz.prog W r b0 26 v) (h : DataW.Trod enc Tryz.prog W 0 (fun _ => true) true 26 v d p) :
  ∃l:List Int,VR (ofF (Ex W)) (Ag l) v∧l.length≤Rows.uptoBulk d∧∀i,i < l.length → -9223372036854775808≤nth l i∧nth l i≤9223372036854775807:=by
 obtain⟨a,len,cap,rfl⟩:=Go.WideShapes.okWide_slice Tryz.underlying26 hv
 obtain⟨fuel,hf⟩:=h
 obtain⟨v,l,h1,h2,h3,h4⟩:=Q9b hf
 have e:Value.slice a len cap=v:=by simpa [Value.cells] using h1
 subst e
 have h3:l.length+1≤Rows.uptoBulk d:=h3
 exact⟨l,h2,by omega,h4⟩
end
end Sv
end
end Go.Proofs.YtlmloohlmlahfaaGreatDoor
