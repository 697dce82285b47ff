/- The texts Base, Heap, Map, Float, Slices, Shelf, Util, Dep1, Dep2, Dep3, Dep4, Dep5, DepT, Dep6, Ord, Dep7, Dep8, Dep9, Dep10, Dep11, Dep12, Dep13, Dep14, Read, DepX, Dep15, Dep16, Pan, Dep17, Defer, Dep18, Dep19, Bld, Dep20, Dep21, Dep22, Trip, S1, S2, S3, S4 of the proof, joined. Each says at its theorems what it proves. -/
import Derived.Test.YtglcebdfdehidaaGreatDoorProg
import Derived.WalkKit
import Derived.WalkSpells
import Derived.WalkLawsBesides
import Derived.Deep.LoopGhost
import Derived.Deep.Quiet
import Derived.ScopeJumps
import Derived.Lib.Strings
import Derived.KernelRfl
import Derived.Lib.OthersKept
import Derived.Maps.AppendAt
import Derived.Shelf.Strings.Builder1
import Derived.Shelf.Strings.Builder2
import Derived.Shelf.Strings.OnBuilder
import Derived.Shelf.Strings.Trim
import Derived.Shelf.Small.Utf8
import Derived.Shelf.Small.Bits
import Derived.Shelf.Small.Strs
import Derived.Shelf.Strings.BuilderF
import Derived.Shelf.Strings.BuilderK
import Derived.Shelf.Strconv.Itoa0
import Derived.Shelf.Strings.Search1
import Derived.Shelf.Strings.Search2
import Derived.Shelf.Strings.Search3
import Derived.Shelf.Strings.Cut
import Derived.Shelf.LaysM
import Derived.Shelf.Strings.Shaped
import Derived.Shelf.Sort.Plain
import Derived.Shelf.GgClosure.StringsIndexFunc
import Derived.Ground.GgwProg
import Derived.Shelf.GgClosure.StringsIndexFuncTop
import Derived.Shelf.GgClosure.StringsRunes
import Derived.Shelf.Strings.Prefix
import Derived.Shelf.Strings.Runes
import Derived.Shelf.Strings.IndexAny
import Derived.Shelf.Strings.AsciiSet
import Derived.Shelf.Strings.IndexAnyAll
import Derived.Shelf.Unicode.DecodeSlow
import Derived.Shelf.Unicode.DecodeAny
import Derived.Shelf.Unicode.DecodeLast
import Derived.Shelf.Strings.FuncGrows
import Derived.Shelf.Slices.Turned
import Derived.Ground.Names2Prog
import Derived.Shelf.Slices.CompactI
import Derived.Shelf.Slices.Cells
import Derived.Shelf.Slices.In.SortNone
import Derived.Laws.ResultCell
import Derived.Lib.IndexLaws
import Derived.OrdersHeld
import Derived.Defers
import Derived.Recover
import Derived.Lib.AppendIntMem
import Derived.Laws.Externs
import Derived.Orders
import Derived.Laws.CopyRow
import Derived.Below
import Derived.Laws.AppendOwn
import Derived.Laws.Entries
set_option linter.unusedSimpArgs false
set_option linter.unusedVariables false
open Go.Proofs.Tryz
set_option maxHeartbeats 2000000
set_option maxRecDepth 100000
namespace Go.Proofs.YtglcebdfdehidaaGreatDoor
open Go Go.RowKit
def upd (σ:Nat→Value) (d:Nat) (v:Value):Nat→Value:=fun i=>bif Nat.beq i d then v else σ i
def Bn (σ:Nat→Value) (d:Option Nat) (v:Value):Nat→Value:=match d with|some d=>upd σ d v|none=>σ
def mk (n:Nat) (σ:Nat→Value):Act:={ tmps:=Array.ofFn (n:=n) (fun i=>σ i.1),defers:=[] }
def sl (n:Nat) (σ:Nat→Value) (t:Nat):Value:=bif Nat.blt t n then σ t else undef
def ev (n:Nat) (σ:Nat→Value):Operand→Value
 |.tmp t=>sl n σ t
 |.const v=>v
 |.global g => .pointer (some ⟨g,0,none⟩)
 |.func f => .func (.func f) #[] #[]
def Fk (l:List Value):Nat→Value:=fun i=>l.getD i undef
theorem G7 (n:Nat) (σ:Nat→Value) (t:Nat):(mk n σ).tmps.getD t undef=sl n σ t:=by
 simp only[mk,sl,Array.getD_eq_getD_getElem?,Array.getElem?_ofFn];by_cases h:t < n
 ·have:Nat.blt t n=true:=by simpa [Nat.blt_eq] using h
  simp[h,this]
 ·have:Nat.blt t n=false:=by rw[Bool.eq_false_iff];intro h';exact h (by simpa [Nat.blt_eq] using h')
  simp[h,this]
theorem mk_eval (n:Nat) (σ:Nat→Value):(mk n σ).eval=ev n σ:=by
 funext x
 cases x with
 |tmp t=>exact G7 n σ t
 |const v=>rfl
 |global g=>rfl
 |func f=>rfl
theorem mk_put (n:Nat) (σ:Nat→Value) (d:Option Nat) (v:Value):(mk n σ).put d v=mk n (Bn σ d v):=by
 cases d with
 |none=>rfl
 |some d =>
  simp only[mk,Act.put,Bn];congr 1;apply Array.ext
  ·simp
  ·intro i h1 h2;simp only[Array.getElem_ofFn,upd];rw[Array.getElem_setIfInBounds (by simpa using h1)];by_cases h:d=i
   ·subst h;simp
   ·have:Nat.beq i d=false:=by rw[Bool.eq_false_iff];intro h';exact h (Nat.eq_of_beq_eq_true h').symm
    simp[h,this]
theorem Q95 (σ:Nat→Value) (d:Nat) (v:Value):upd σ d v d=v:=by simp[upd]
theorem Q96 (σ:Nat→Value) (d i:Nat) (v:Value) (h:i≠d):upd σ d v i=σ i:=by
 have:Nat.beq i d=false:=by rw[Bool.eq_false_iff];intro h';exact h (Nat.eq_of_beq_eq_true h')
 simp[upd,this]
theorem Ph {σ:Nat→Value} {d:Nat} {v:Value} (h:σ d=v):σ=upd σ d v:=by
 funext i;by_cases hi:i=d
 ·rw[hi,Q95,h]
 ·rw[Q96 _ _ _ _ hi]
def Jq:List Oper→Nat→Option Nat
 |[],_=>none
 |o::_,0=>o.dst
 |_::r,j+1=>Jq r j
theorem X7v (l:List Oper) (j:Nat):Jq l j=(l[j]?).bind (·.dst):=by
 induction l generalizing j with
 |nil=>simp[Jq]
 |cons o r ih=>cases j with
  |zero=>simp[Jq]
  |succ j=>simp[Jq,ih]
def isB (want:Bool):Value→Bool
 |.bool b=>bif want then b else !b
 |_=>false
def gOk (ops:Array Oper) (n:Nat) (σ:Nat→Value) (g:Option (Nat × Bool)):Bool :=
 match g with
 |none=>true
 |some (j,want)=>match Jq ops.toList j with
  |some t=>isB want (sl n σ t)
  |none=>false
theorem wanted_mk (ops:Array Oper) (n:Nat) (σ:Nat→Value) (o:Oper):Region.wanted o (yielded ops (mk n σ).tmps)=gOk ops n σ o.guard:=by
 unfold Region.wanted gOk
 cases o.guard with
 |none=>rfl
 |some g =>
  obtain⟨j,want⟩:=g;simp only[yielded,X7v,Array.getElem?_toList]
  cases (ops[j]?).bind (·.dst) with
  |none=>simp
  |some t =>
   have h:=G7 n σ t;simp only[Option.bind_some];rw[Array.getD_eq_getD_getElem?] at h
   cases hx:(mk n σ).tmps[t]? with
   |none=>rw[hx] at h;simp only[Option.getD_none] at h;rw[←h];simp[isB,undef]
   |some v=>rw[hx] at h;simp only[Option.getD_some] at h;rw[←h];cases v<;>simp[isB]<;>cases want<;>simp
def lift (n:Nat) (Q:Exit→(Nat→Value)→World→Prop):Exit→Act→World→Prop:=fun e a w=>∃σ,a=mk n σ∧Q e σ w
def W (P:Program) (n:Nat) (c:Code) (Q:Exit→(Nat→Value)→World→Prop) (σ:Nat→Value) (w:World):Prop:=c.wp P (lift n Q) (mk n σ) w
def Pp (K:(Nat→Value)→World→Prop) (Q:Exit→(Nat→Value)→World→Prop):Exit→(Nat→Value)→World→Prop
 |.normal,σ,w=>K σ w
 |e,σ,w=>Q e σ w
def Ya (id:Nat) (Q:Exit→(Nat→Value)→World→Prop):Exit→(Nat→Value)→World→Prop
 |.exit i,σ,w=>bif Nat.beq i id then Q .normal σ w else Q (.exit i) σ w
 |e,σ,w=>Q e σ w
def WO (P:Program) (n:Nat) (ops:Array Oper) (l:List Oper) (Q:Exit→(Nat→Value)→World→Prop) (σ:Nat→Value) (w:World):Prop :=
 wpList P ops (lift n Q) l (mk n σ) w
section
variable {P : Program} {n : Nat} {Q : Exit → (Nat → Value) → World → Prop} {σ : Nat → Value} {w : World}
theorem W_mono {c:Code} {Q':Exit→(Nat→Value)→World→Prop} (h:W P n c Q σ w) (hq:∀e σ w,Q e σ w→Q' e σ w):W P n c Q' σ w :=
 wp_mono h fun _ _ _ ⟨σ',ha,q⟩=>⟨σ',ha,hq _ _ _ q⟩
theorem W_seq {x y:Code} (h:W P n x (Pp (W P n y Q) Q) σ w):W P n (.seq x y) Q σ w:=by
 refine wp_seq (wp_mono h ?_);rintro e a w ⟨σ',rfl,q⟩
 cases e<;>first|exact q|exact⟨σ',rfl,q⟩
theorem Q9 {x y:Code} (J:(Nat→Value)→World→Prop) (h:W P n x (Pp J Q) σ w) (r:∀σ w,J σ w→W P n y Q σ w):W P n (.seq x y) Q σ w:=by
 refine W_seq (W_mono h ?_);intro e σ w q
 cases e<;>first|exact q|exact r _ _ q
theorem W_skip (h:Q .normal σ w):W P n .skip Q σ w:=wp_skip ⟨σ,rfl,h⟩
theorem W_ret (h:Q .ret σ w):W P n .ret Q σ w:=wp_ret ⟨σ,rfl,h⟩
theorem Na {id:Nat} (h:Q (.exit id) σ w):W P n (.exit id) Q σ w:=wp_exit ⟨σ,rfl,h⟩
theorem Y4b {l:Nat} (h:Q .normal σ w):W P n (.label l) Q σ w:=wp_label ⟨σ,rfl,h⟩
theorem Y4c {l:Nat} (h:Q (.goto l) σ w):W P n (.goto l) Q σ w:=wp_goto ⟨σ,rfl,h⟩
theorem Gw {id:Nat} {c:Code} (h:W P n c (Ya id Q) σ w):W P n (.block id c) Q σ w:=by
 refine wp_block (wp_mono h ?_);rintro e a w ⟨σ',rfl,q⟩
 cases e with
 |exit i =>
  simp only[Exit.inBlock];simp only[Ya] at q;by_cases hi:i=id
  ·subst hi;have:Nat.beq i i=true:=Nat.beq_refl i;rw[this] at q;rw[if_pos rfl];exact⟨σ',rfl,q⟩
  ·have:Nat.beq i id=false:=by rw[Bool.eq_false_iff];intro h';exact hi (Nat.eq_of_beq_eq_true h')
   rw[this] at q;rw[if_neg hi];exact⟨σ',rfl,q⟩
 |_=>exact⟨σ',rfl,q⟩
theorem M8 {c:Operand} {x y:Code} (hc:ev n σ c = .bool true) (h:W P n x Q σ w):W P n (.cond c x y) Q σ w :=
 wp_cond_true (by rw[mk_eval];exact hc) h
theorem Kz {c:Operand} {x y:Code} (hc:ev n σ c = .bool false) (h:W P n y Q σ w):W P n (.cond c x y) Q σ w :=
 wp_cond_false (by rw[mk_eval];exact hc) h
theorem W_cond {c:Operand} {x y:Code} {t:Bool} (hc:ev n σ c = .bool t) (ht:t=true→W P n x Q σ w) (hf:t=false→W P n y Q σ w) :
  W P n (.cond c x y) Q σ w :=
 wp_cond_split (by rw[mk_eval];exact hc) ht hf
theorem Fu {c:Operand} {x y:Code} {p:Prop} [Decidable p] (hc:ev n σ c = .bool (decide p)) (ht:p→W P n x Q σ w) (hf:¬p→W P n y Q σ w) :
  W P n (.cond c x y) Q σ w :=
 W_cond hc (fun h=>ht (of_decide_eq_true h)) (fun h=>hf (of_decide_eq_false h))
theorem M9 {c:Code} (I:Nat→(Nat→Value)→World→Prop) (h0:∃g,I g σ w)
  (round:∀g σ w,I g σ w→W P n c (Pp (fun σ w=>∃g',g' < g∧I g' σ w) Q) σ w):W P n (.loop c) Q σ w:=by
 obtain⟨g,h0⟩:=h0;refine wp_loop_ghost (fun g a w=>∃σ,a=mk n σ∧I g σ w) g ⟨σ,rfl,h0⟩ ?_;rintro g a w ⟨σ,rfl,hI⟩;refine wp_mono (round g σ w hI) ?_;rintro e a w ⟨σ',rfl,q⟩
 cases e with
 |normal=>obtain⟨g',hg,hI⟩:=q;exact⟨g',hg,σ',rfl,hI⟩
 |_=>exact⟨σ',rfl,q⟩
def X4n (Q:Exit→(Nat→Value)→World→Prop):Exit→(Nat→Value)→World→Prop
 |.goto _,_,_=>False
 |e,σ,w=>Q e σ w
theorem Q8e {c:Code} (h:W P n c (X4n Q) σ w):W P n (.scope c) Q σ w:=by
 refine wp_scope_straight (wp_mono h ?_);rintro e a w ⟨σ',rfl,q⟩
 cases e with
 |goto l=>exact q.elim
 |_=>exact⟨σ',rfl,q⟩
theorem W_reg {id:Nat} {l:List Oper} (h:WO P n l.toArray l Q σ w):W P n (.region id l.toArray false) Q σ w:=wp_region_lit h
theorem A0 {ops:Array Oper} (h:Q .normal σ w):WO P n ops [] Q σ w:=⟨σ,rfl,h⟩
theorem B8 {ops:Array Oper} {o:Oper} {rest:List Oper} {v:Value} {w':World} (hg:gOk ops n σ o.guard=true)
  (h:(execOp (ev n σ) o).run P w = .ok (.value v) w') (next:WO P n ops rest Q (Bn σ o.dst v) w'):WO P n ops (o::rest) Q σ w:=by
 unfold WO wpList;rw[wanted_mk,hg,if_pos rfl];left;unfold Oper.wp;rw[mk_eval,h,Oper.upon_value,mk_put];exact next
theorem Eu {ops:Array Oper} {o:Oper} {rest:List Oper} {v:Value} (hg:gOk ops n σ o.guard=true)
  (h:(execOp (ev n σ) o).run P w = .ok (.value v) w) (next:WO P n ops rest Q (Bn σ o.dst v) w):WO P n ops (o::rest) Q σ w:=B8 hg h next
theorem Hd {ops:Array Oper} {o:Oper} {rest:List Oper} {w':World} (hg:gOk ops n σ o.guard=true)
  (h:(execOp (ev n σ) o).run P w = .ok .skip w') (next:WO P n ops rest Q (Bn σ o.dst undef) w'):WO P n ops (o::rest) Q σ w:=by
 unfold WO wpList;rw[wanted_mk,hg,if_pos rfl];left;unfold Oper.wp;rw[mk_eval,h,Oper.upon_skip,mk_put];exact next
theorem D9 {ops:Array Oper} {o:Oper} {rest:List Oper} (hg:gOk ops n σ o.guard=false)
  (next:WO P n ops rest Q (Bn σ o.dst undef) w):WO P n ops (o::rest) Q σ w:=by
 unfold WO wpList;rw[wanted_mk,hg,if_neg (by simp)];rw[mk_put];exact next
theorem Y4n {ops:Array Oper} {o:Oper} {rest:List Oper} {v:Value} {w':World} (hg:gOk ops n σ o.guard=true)
  (h:(execOp (ev n σ) o).run P w = .halt (.panic v) w') (next:Q (.panic [{ v,recovered:=false }]) σ w'):WO P n ops (o::rest) Q σ w:=by
 unfold WO wpList;rw[wanted_mk,hg,if_pos rfl];left;unfold Oper.wp;rw[mk_eval,h,Oper.upon_panic];exact⟨σ,rfl,next⟩
theorem Nd {ops:Array Oper} {o:Oper} {rest:List Oper} {f:FuncId} {args:Array Value} {w':World} {R:Ending→World→Prop} (hg:gOk ops n σ o.guard=true)
  (h:(execOp (ev n σ) o).run P w = .ok (.enter f args) w') (hc:Calls P f args w' R)
  (next:∀v w'',R (.returned v) w''→WO P n ops rest Q (Bn σ o.dst v) w'')
  (nop:∀ch w'',R (.panicked ch) w''→Q (.panic ch) σ w'')
  (noo:∀w'',¬R .outgrown w''):WO P n ops (o::rest) Q σ w:=by
 unfold WO wpList;rw[wanted_mk,hg,if_pos rfl];left;unfold Oper.wp;rw[mk_eval,h,Oper.upon_enter];refine hc.mono ?_;intro e w'' hR
 cases e with
 |returned v=>show wpList _ _ _ _ _ _;rw[mk_put];exact next v w'' hR
 |panicked ch=>exact⟨σ,rfl,nop ch w'' hR⟩
 |outgrown=>exact(noo w'' hR).elim
theorem Y4l {ops:Array Oper} {l:List Oper} (t:Nat) {b:Bool} (h:σ t = .bool b) (ht:b=true→WO P n ops l Q (upd σ t (.bool true)) w)
  (hf:b=false→WO P n ops l Q (upd σ t (.bool false)) w):WO P n ops l Q σ w:=by
 rw[Ph h];cases b
 ·exact hf rfl
 ·exact ht rfl
theorem Ra {ops:Array Oper} {l:List Oper} (t:Nat) {p:Prop} [Decidable p] (h:σ t = .bool (decide p)) (ht:p→WO P n ops l Q (upd σ t (.bool true)) w)
  (hf:¬p→WO P n ops l Q (upd σ t (.bool false)) w):WO P n ops l Q σ w :=
 Y4l t h (fun h=>ht (of_decide_eq_true h)) (fun h=>hf (of_decide_eq_false h))
theorem Ip {ops:Array Oper} {l:List Oper} (t:Nat) {v v':Value} (h:σ t=v) (e:v=v') (k:WO P n ops l Q (upd σ t v') w):WO P n ops l Q σ w:=by
 rw[Ph (h.trans e)];exact k
end
abbrev S (l:List UInt8):Value:=.string ⟨l.toArray⟩
def Ny (op:BinOp) (x y:Value):Option Value :=
 match x,y with
 |.int k a,.int k' b=>if k=k' then (match op with
   |.eql=>some (.bool (decide (a=b)))
   |.neq=>some (.bool (!decide (a=b)))
   |.lss=>some (.bool (decide (a < b)))
   |.leq=>some (.bool (decide (a≤b)))
   |.gtr=>some (.bool (decide (b < a)))
   |.geq=>some (.bool (decide (b≤a)))
   |.add=>some (.int k (k.wrap (a+b)))
   |.sub=>some (.int k (k.wrap (a-b)))
   |.mul=>some (.int k (k.wrap (a*b)))
   |_=>none) else none
 |_,_=>none
def Jj (n:Nat) (σ:Nat→Value):Op→Option Value
 |.move x=>some (ev n σ x)
 |.assign x=>some (ev n σ x)
 |.pick c a b=>match ev n σ c with
  |.bool t=>some (bif t then ev n σ a else ev n σ b)
  |_=>none
 |.binOp op _ x y _=>Ny op (ev n σ x) (ev n σ y)
 |.unOp .not _ x=>match ev n σ x with
  |.bool b=>some (.bool (!b))
  |_=>none
 |.unOp .neg _ x=>match ev n σ x with
  |.int k a=>some (.int k (k.wrap (0-a)))
  |_=>none
 |.extract x i=>match ev n σ x with
  |.tuple vs=>vs[i]?
  |_=>none
 |.nilCheck x=>match ev n σ x with
  |.pointer (some a)=>some (.pointer (some a))
  |_=>none
 |_=>none
theorem Ji {P:Program} {n:Nat} {σ:Nat→Value} {w:World} {o:Oper} {v:Value} (h:Jj n σ o.op=some v):(execOp (ev n σ) o).run P w = .ok (.value v) w:=by
 obtain⟨dst,op,type,pos,after,guard⟩:=o;cases op<;>simp only[Jj,reduceCtorEq] at h
 case move x=>simp only[Option.some.injEq] at h;subst h;rfl
 case assign x=>simp only[Option.some.injEq] at h;subst h;rfl
 case pick c a b =>
  cases hc:ev n σ c<;>rw[hc] at h<;>simp only[reduceCtorEq,Option.some.injEq] at h;rename_i t;subst h;cases t<;>simp[execOp,hc,go_sem]
 case binOp op xt x y yt =>
  cases hx:ev n σ x<;>cases hy:ev n σ y<;>rw[hx,hy] at h<;>simp only[Ny,reduceCtorEq] at h;rename_i k a k' b;split at h
  ·rename_i hk;subst hk
   cases op<;>simp only[reduceCtorEq,Option.some.injEq] at h<;>subst h<;>simp[execOp,hx,hy,eqGuard,binOp,go_sem]<;>first|rfl|(rw[Bool.eq_iff_iff];simp)
  ·simp at h
 case unOp op xt x =>
  cases op<;>cases hx:ev n σ x<;>simp only[hx,reduceCtorEq,Option.some.injEq] at h<;>subst h<;>simp[execOp,hx,go_sem]
 case extract x i =>
  cases hx:ev n σ x<;>simp only[hx,reduceCtorEq] at h;simp[execOp,hx,Instr.extract,h,go_sem]
 case nilCheck x =>
  cases hx:ev n σ x<;>simp only[hx,reduceCtorEq] at h;rename_i a;cases a<;>simp only[reduceCtorEq,Option.some.injEq] at h;subst h;simp[execOp,hx,go_sem]
section
variable {P : Program} {n : Nat} {Q : Exit → (Nat → Value) → World → Prop} {σ : Nat → Value} {w : World}
theorem Ah {ops:Array Oper} {o:Oper} {rest:List Oper} {v:Value} (hg:gOk ops n σ o.guard=true) (h:Jj n σ o.op=some v)
  (next:WO P n ops rest Q (Bn σ o.dst v) w):WO P n ops (o::rest) Q σ w:=B8 hg (Ji h) next
end
section
variable {P : Program} {n : Nat} {Q : Exit → (Nat → Value) → World → Prop} {σ : Nat → Value} {w : World}
theorem C5 {c:Code} {d:Nat} {v:Value} (h:σ d=v) (k:W P n c Q (upd σ d v) w):W P n c Q σ w:=by
 rw[Ph h];exact k
def Ret (T:Value→World→Prop) (e:Ending) (w:World):Prop:=∃v,e = .returned v∧T v w
theorem Ret.intro {T:Value→World→Prop} {v:Value} {w:World} (h:T v w):Ret T (.returned v) w:=⟨v,rfl,h⟩
theorem Ret.mono {T T':Value→World→Prop} {e:Ending} {w:World} (h:Ret T e w) (f:∀v w,T v w→T' v w):Ret T' e w:=by
 obtain⟨v,he,hv⟩:=h;exact⟨v,he,f _ _ hv⟩
def I7 (P:Program) (n:Nat) (fn:Func) (R:Ending→World→Prop):Exit→(Nat→Value)→World→Prop
 |.normal,σ,w | .ret,σ,w=>∃v,(results fn (mk n σ).tmps).run P w = .ok v w∧R (.returned v) w
 |.panic ch,_,w=>R (.panicked ch) w
 |.outgrown,_,w=>R .outgrown w
 |_,_,_=>False
theorem D1 {f:FuncId} {fn:Func} {c:Code} {args:List Value} {R:Ending→World→Prop} (hf:P.funcs[f]? = some fn) (hb:fn.body=some c) (hn:fn.ntmps=n)
  (h:W P n c (I7 P n fn R) (Fk args) w) (hl:Nat.ble args.length n=true:=by rfl):Calls P f args.toArray w R:=by
 have ha:args.length≤n:=Nat.le_of_ble_eq_true hl;refine calls_of_wp hf hb ?_
 have e:({ tmps:=args.toArray++Array.replicate (fn.ntmps-args.toArray.size) undef,defers:=[] }:Act)=mk n (Fk args):=by
  unfold mk;congr 1;apply Array.ext
  ·simp;omega
  ·intro i h1 h2;simp only[Array.getElem_ofFn,Fk];rw[Array.getElem_append];by_cases hi:i < args.length
   ·simp[hi,List.getD_eq_getElem?_getD]
   ·simp[hi,List.getD_eq_getElem?_getD]
 rw[e];refine wp_mono h ?_;rintro e a w ⟨σ',rfl,q⟩
 cases e with
 |normal=>exact⟨rfl,q⟩
 |ret=>exact⟨rfl,q⟩
 |panic ch=>exact⟨rfl,q⟩
 |outgrown=>exact q
 |exit id=>exact q.elim
 |goto l=>exact q.elim
theorem E9 {fn:Func} {T:Value→World→Prop} {t:Nat} {v0:Value} (hr:fn.results = #[.tmp t]) (h0:sl n σ t=v0) (h:T v0 w) :
  I7 P n fn (Ret T) .ret σ w:=by
 refine⟨v0,?_,⟨v0,rfl,h⟩⟩;rw[results_tmp hr,G7,h0]
theorem X9 {fn:Func} {T:Value→World→Prop} {t u:Nat} {v0 v1:Value} (hr:fn.results = #[.tmp t,.tmp u]) (h0:sl n σ t=v0) (h1:sl n σ u=v1)
  (h:T (.tuple #[v0,v1]) w):I7 P n fn (Ret T) .ret σ w:=by
 refine⟨_,?_,⟨_,rfl,h⟩⟩;rw[results_tmp2 hr,G7,G7,h0,h1]
theorem Uh {fn:Func} {T:Value→World→Prop} {t u s:Nat} {v0 v1 v2:Value} (hr:fn.results = #[.tmp t,.tmp u,.tmp s]) (h0:sl n σ t=v0) (h1:sl n σ u=v1) (h2:sl n σ s=v2)
  (h:T (.tuple #[v0,v1,v2]) w):I7 P n fn (Ret T) .ret σ w:=by
 refine⟨_,?_,⟨_,rfl,h⟩⟩;have e0:=G7 n σ t;have e1:=G7 n σ u;have e2:=G7 n σ s;rw[Array.getD_eq_getD_getElem?] at e0 e1 e2;simp only[results,hr];simp[e0,e1,e2,h0,h1,h2]
theorem Oz {fn:Func} {T:Value→World→Prop} {e:Exit} (he:e = .normal∨e = .ret) (hr:fn.results = #[]) (h:T (.tuple #[]) w):I7 P n fn (Ret T) e σ w:=by
 rcases he with rfl|rfl<;>exact⟨_,results_none hr _ _ _,⟨_,rfl,h⟩⟩
def Ai (P:Program) (f:FuncId):Prop:=∀args w,(callFunc f args).run P w = .ok (.enter f args) w
theorem X8u {P : Program} {f : FuncId} {fn : Func} {c : Code} (hf : P.funcs[f]? = some fn) (hname : (fn.name == "runtime.NumGoroutine") = false) (hb : fn.body = some c) : Ai P f := by
 intro args w
 have h1 : fn.name ≠ "runtime.NumGoroutine" := by simpa using hname
 simp[callFunc,hf,h1,hb,mark,go_sem]
theorem Am {P : Program} {f : FuncId} {fn : Func} {c : Code} (hf : P.funcs[f]? = some fn) (hn : (fn.name == "runtime.NumGoroutine") = false := by kernel_rfl) (hb : fn.body = some c := by exact rfl) : Ai P f := X8u hf hn hb
theorem Pr {P:Program} {f:FuncId} {args:Array Value} {w:World} {v:Value} (h:Calls P f args w fun e w'=>e = .returned v∧w'=w):Calls P f args w (Ret fun v' w'=>v'=v∧w=w') :=
 h.mono fun _ _ ⟨he,hw⟩=>⟨v,he,rfl,hw.symm⟩
theorem X2i {P:Program} {f:FuncId} {args:Array Value} {w:World} {v:Value} {T:World→Prop} (h:Calls P f args w fun e w'=>e = .returned v∧T w'):Calls P f args w (Ret fun v' w'=>v'=v∧T w') :=
 h.mono fun _ _ ⟨he,hw⟩=>⟨v,he,rfl,hw⟩
theorem Cv {ops:Array Oper} {rest:List Oper} {f:FuncId} {ar:Array Operand} {ts:Array TypeId} {ty:TypeId} {ps:String} {dst:Option Tmp} {af:Array Edge} {g:Option (Nat × Bool)} {T:Value→World→Prop}
  (hg:gOk ops n σ g=true) (he:Ai P f) (hc:Calls P f (ar.toList.map (ev n σ)).toArray w (Ret T))
  (next:∀v w',T v w'→WO P n ops rest Q (Bn σ dst v) w') :
  WO P n ops (⟨dst,.call { callee:=.value (.func f),args:=ar,argTypes:=ts },ty,ps,af,g⟩::rest) Q σ w:=by
 refine Nd (R:=Ret T) (w':=w) (f:=f) (args:=(ar.toList.map (ev n σ)).toArray) hg ?_ hc ?_ ?_ ?_
 ·have:ar.map (ev n σ)=(ar.toList.map (ev n σ)).toArray:=by
   apply Array.ext';simp
  simp only[execOp,resolve,ev,this];have:=he (List.map (ev n σ) ar.toList).toArray w;simp[Deferred.ofValue,invoke,go_sem,this]
 ·rintro v w'' ⟨v',hv,hT⟩;cases hv;exact next v w'' hT
 ·rintro ch w'' ⟨v',hv,hT⟩;cases hv
 ·rintro w'' ⟨v',hv,hT⟩;cases hv
theorem Rb {ops:Array Oper} {rest:List Oper} {x:Operand} {f:FuncId} {cap:Array Value} {ar:Array Operand} {ts:Array TypeId} {ty:TypeId} {ps:String} {dst:Option Tmp} {af:Array Edge} {g:Option (Nat × Bool)} {T:Value→World→Prop}
  (hg:gOk ops n σ g=true) (hx:ev n σ x = .func (.func f) #[] cap) (he:Ai P f) (hc:Calls P f (ar.toList.map (ev n σ)++cap.toList).toArray w (Ret T))
  (next:∀v w',T v w'→WO P n ops rest Q (Bn σ dst v) w') :
  WO P n ops (⟨dst,.call { callee:=.value x,args:=ar,argTypes:=ts },ty,ps,af,g⟩::rest) Q σ w:=by
 refine Nd (R:=Ret T) (w':=w) (f:=f) (args:=(ar.toList.map (ev n σ)++cap.toList).toArray) hg ?_ hc ?_ ?_ ?_
 ·have h1:ar.map (ev n σ)=(ar.toList.map (ev n σ)).toArray:=by
   apply Array.ext';simp
  have h2:(ar.toList.map (ev n σ)++cap.toList).toArray=(ar.toList.map (ev n σ)).toArray++cap:=by
   apply Array.ext';simp
  have:=he ((List.map (ev n σ) ar.toList).toArray++cap) w;simp only[execOp,resolve,hx,h1,h2];simp[Deferred.ofValue,invoke,go_sem,this]
 ·rintro v w'' ⟨v',hv,hT⟩;cases hv;exact next v w'' hT
 ·rintro ch w'' ⟨v',hv,hT⟩;cases hv
 ·rintro w'' ⟨v',hv,hT⟩;cases hv
def kLo:IntKind→Int
 |.i8 => -128 | .i16 => -32768 | .i32 => -2147483648 | .i64 => -9223372036854775808
 |.u8 | .u16 | .u32 | .u64=>0
def kHi:IntKind→Int
 |.i8=>127 | .i16=>32767 | .i32=>2147483647 | .i64=>9223372036854775807
 |.u8=>255 | .u16=>65535 | .u32=>4294967295 | .u64=>18446744073709551615
theorem Nk (k:IntKind) (a:Int) (h:kLo k≤a∧a≤kHi k):k.wrap a=a:=by
 obtain⟨h1,h2⟩:=h;cases k<;>simp only[kLo,kHi] at h1 h2<;>simp[IntKind.wrap,IntKind.signed,IntKind.bits]<;>omega
theorem Uv {dst:Option Tmp} {x y:Operand} {t t' ty:TypeId} {ps:String} {af:Array Edge} {g:Option (Nat × Bool)} {k:IntKind} {a b v:Int}
  (hx:ev n σ x = .int k a) (hy:ev n σ y = .int k b) (hr:kLo k≤a+b∧a+b≤kHi k) (hv:a+b=v:=by rfl):(execOp (ev n σ) ⟨dst,.binOp .add t x y t',ty,ps,af,g⟩).run P w = .ok (.value (.int k v)) w :=
 Ji (by subst hv;simp[Jj,hx,hy,Ny,Nk k _ hr])
theorem O8 {ops:Array Oper} {rest:List Oper} {dst:Option Tmp} {x y:Operand} {t t' ty:TypeId} {ps:String} {af:Array Edge} {g:Option (Nat × Bool)} {k:IntKind} {a b v:Int}
  (hg:gOk ops n σ g=true) (hx:ev n σ x = .int k a) (hy:ev n σ y = .int k b) (hr:kLo k≤a+b∧a+b≤kHi k)
  (next:WO P n ops rest Q (Bn σ dst (.int k v)) w) (hv:a+b=v:=by rfl):WO P n ops (⟨dst,.binOp .add t x y t',ty,ps,af,g⟩::rest) Q σ w :=
 B8 hg (Uv hx hy hr hv) next
theorem Q85 {dst:Option Tmp} {x y:Operand} {t t' ty:TypeId} {ps:String} {af:Array Edge} {g:Option (Nat × Bool)} {k:IntKind} {a b v:Int}
  (hx:ev n σ x = .int k a) (hy:ev n σ y = .int k b) (hr:kLo k≤a-b∧a-b≤kHi k) (hv:a-b=v:=by rfl):(execOp (ev n σ) ⟨dst,.binOp .sub t x y t',ty,ps,af,g⟩).run P w = .ok (.value (.int k v)) w :=
 Ji (by subst hv;simp[Jj,hx,hy,Ny,Nk k _ hr])
theorem Ym {ops:Array Oper} {rest:List Oper} {dst:Option Tmp} {x y:Operand} {t t' ty:TypeId} {ps:String} {af:Array Edge} {g:Option (Nat × Bool)} {k:IntKind} {a b v:Int}
  (hg:gOk ops n σ g=true) (hx:ev n σ x = .int k a) (hy:ev n σ y = .int k b) (hr:kLo k≤a-b∧a-b≤kHi k)
  (next:WO P n ops rest Q (Bn σ dst (.int k v)) w) (hv:a-b=v:=by rfl):WO P n ops (⟨dst,.binOp .sub t x y t',ty,ps,af,g⟩::rest) Q σ w :=
 B8 hg (Q85 hx hy hr hv) next
theorem Y59 {dst:Option Tmp} {x:Operand} {t ty:TypeId} {ps:String} {af:Array Edge} {g:Option (Nat × Bool)} {k:IntKind} {a v:Int}
  (hx:ev n σ x = .int k a) (hr:kLo k≤0-a∧0-a≤kHi k) (hv:0-a=v:=by omega):(execOp (ev n σ) ⟨dst,.unOp .neg t x,ty,ps,af,g⟩).run P w = .ok (.value (.int k v)) w :=
 Ji (by subst hv;simp only[Jj,hx,Nk k _ hr])
theorem Y6a {dst:Option Tmp} {x y:Operand} {t t' ty:TypeId} {ps:String} {af:Array Edge} {g:Option (Nat × Bool)} {k:IntKind} {a b v:Int}
  (hx:ev n σ x = .int k a) (hy:ev n σ y = .int k b) (hr:kLo k≤a*b∧a*b≤kHi k) (hv:a*b=v:=by rfl):(execOp (ev n σ) ⟨dst,.binOp .mul t x y t',ty,ps,af,g⟩).run P w = .ok (.value (.int k v)) w :=
 Ji (by subst hv;simp[Jj,hx,hy,Ny,Nk k _ hr])
theorem Y6h {dst:Option Tmp} {x:Operand} {t t' ty:TypeId} {ps:String} {af:Array Edge} {g:Option (Nat × Bool)} {k k':IntKind} {a v:Int}
  (hx:ev n σ x = .int k a) (h1:P.underlying t=some (.int k)) (h2:P.underlying t'=some (.int k')) (hr:kLo k'≤a∧a≤kHi k')
  (hv:a=v:=by rfl) :
  (execOp (ev n σ) ⟨dst,.convert t t' x,ty,ps,af,g⟩).run P w = .ok (.value ((.int k' v))) w:=by
 subst hv;simp[execOp,hx,convert,run_underlying h1,run_underlying h2,Conv.intToInt,Nk k' _ hr,go_sem]
theorem Q0i {P:Program} {t:TypeId} (w:World) (d:Nat) (a b:Bool) (ht:P.underlying t=some .bool):(Op.equalIn (d+1) t (.bool a) (.bool b)).run P w = .ok (a == b) w:=by
 simp[Op.equalIn,run_underlying ht]
theorem X2a {P:Program} {t:TypeId} (w:World) (a b:Bool) (ht:P.underlying t=some .bool):(binOp .eql t (.bool a) (.bool b)).run P w = .ok (.bool (a == b)) w:=by
 simp only[binOp];simp[Op.equal,Op.maxDepth,Q0i w 9999 a b ht]
theorem X19 {P:Program} {t:TypeId} (w:World) (a b:Bool) (ht:P.underlying t=some .bool):(binOp .neq t (.bool a) (.bool b)).run P w = .ok (.bool (!(a == b))) w:=by
 simp only[binOp];simp[Op.equal,Op.maxDepth,Q0i w 9999 a b ht]
theorem Y6k {dst:Option Tmp} {x y:Operand} {t t' ty:TypeId} {ps:String} {af:Array Edge} {g:Option (Nat × Bool)} {a b:Bool}
  (hx:ev n σ x = .bool a) (hy:ev n σ y = .bool b) (ht:P.underlying t=some .bool)
   :
  (execOp (ev n σ) ⟨dst,.binOp .eql t x y t',ty,ps,af,g⟩).run P w = .ok (.value ((.bool (a == b)))) w:=by
 simp[execOp,hx,hy,eqGuard,X2a w a b ht,go_sem]
theorem Y6j {dst:Option Tmp} {x y:Operand} {t t' ty:TypeId} {ps:String} {af:Array Edge} {g:Option (Nat × Bool)} {a b:Bool}
  (hx:ev n σ x = .bool a) (hy:ev n σ y = .bool b) (ht:P.underlying t=some .bool)
   :
  (execOp (ev n σ) ⟨dst,.binOp .neq t x y t',ty,ps,af,g⟩).run P w = .ok (.value ((.bool (!(a == b))))) w:=by
 simp[execOp,hx,hy,eqGuard,X19 w a b ht,go_sem]
theorem O9 (l:List UInt8):(⟨l.toArray⟩:ByteArray).toList=l:=by rw[Lib.toList_data]
theorem Gx (l:List UInt8):(⟨l.toArray⟩:ByteArray).size=l.length:=by simp[ByteArray.size]
def Af (l:List UInt8) (j:Nat):UInt8:=l.getD j 0
theorem I5 {l:List UInt8} {j:Nat} (h:j < l.length):Af l j=l[j]:=by
 unfold Af;rw[List.getD_eq_getElem?_getD,List.getElem?_eq_getElem h];rfl
theorem Q69 (l:List UInt8) (j:Nat):(Af l j).toNat < 256:=UInt8.toNat_lt _
theorem Q88 {dst:Option Tmp} {x:Operand} {t ty:TypeId} {ps:String} {af:Array Edge} {g:Option (Nat × Bool)} {l:List UInt8}
  (hx:ev n σ x=S l) (ht:P.underlying t=some .string)
   :
  (execOp (ev n σ) ⟨dst,.call { callee:=.builtin .len,args := #[x],argTypes := #[t] },ty,ps,af,g⟩).run P w = .ok (.value ((.int .i64 (l.length:Int)))) w:=by
 simp[execOp,resolve,invoke,builtin,Builtin.len_,hx,S,run_underlying ht,go_sem,Gx,goInt]
theorem J1 {ops:Array Oper} {rest:List Oper} {dst:Option Tmp} {x:Operand} {t ty:TypeId} {ps:String} {af:Array Edge} {g:Option (Nat × Bool)} {l:List UInt8}
  (hg:gOk ops n σ g=true) (hx:ev n σ x=S l) (ht:P.underlying t=some .string)
  (next:WO P n ops rest Q (Bn σ dst ((.int .i64 (l.length:Int)))) w):WO P n ops (⟨dst,.call { callee:=.builtin .len,args := #[x],argTypes := #[t] },ty,ps,af,g⟩::rest) Q σ w :=
 B8 hg (Q88 hx ht) next
theorem Ri {dst:Option Tmp} {x i:Operand} {t ty:TypeId} {ps:String} {af:Array Edge} {g:Option (Nat × Bool)} {l:List UInt8} {k:IntKind} {a:Int} {j:Nat}
  (hx:ev n σ x=S l) (hi:ev n σ i = .int k a) (ht:P.underlying t=some .string) (hj:a=(j:Int)) (hlt:j < l.length)
   :
  (execOp (ev n σ) ⟨dst,.index t x i,ty,ps,af,g⟩).run P w = .ok (.value ((.int .u8 ((Af l j).toNat:Int)))) w:=by
 subst hj
 have h:(⟨l.toArray⟩:ByteArray)[j]? = some (Af l j):=by
  have hs:j < (⟨l.toArray⟩:ByteArray).size:=by rw[Gx];exact hlt
  rw[getElem?_pos (⟨l.toArray⟩:ByteArray) j hs];simp only[Option.some.injEq];rw[I5 hlt];rfl
 simp[execOp,Instr.index,hx,hi,S,run_underlying ht,go_sem,h]
theorem Q8j {ops:Array Oper} {rest:List Oper} {dst:Option Tmp} {x i:Operand} {t ty:TypeId} {ps:String} {af:Array Edge} {g:Option (Nat × Bool)} {l:List UInt8} {k:IntKind} {a:Int} {j:Nat}
  (hg:gOk ops n σ g=true) (hx:ev n σ x=S l) (hi:ev n σ i = .int k a) (ht:P.underlying t=some .string) (hj:a=(j:Int)) (hlt:j < l.length)
  (next:WO P n ops rest Q (Bn σ dst ((.int .u8 ((Af l j).toNat:Int)))) w):WO P n ops (⟨dst,.index t x i,ty,ps,af,g⟩::rest) Q σ w :=
 B8 hg (Ri hx hi ht hj hlt) next
theorem Yv {dst:Option Tmp} {x y:Operand} {t t' ty:TypeId} {ps:String} {af:Array Edge} {g:Option (Nat × Bool)} {l1 l2:List UInt8}
  (hx:ev n σ x=S l1) (hy:ev n σ y=S l2)
   :
  (execOp (ev n σ) ⟨dst,.binOp .eql t x y t',ty,ps,af,g⟩).run P w = .ok (.value ((.bool (decide (l1=l2))))) w:=by
 simp[execOp,hx,hy,S,eqGuard,binOp,Op.stringOp,O9,go_sem];rw[Bool.eq_iff_iff];simp
theorem Yn {ops:Array Oper} {rest:List Oper} {dst:Option Tmp} {x y:Operand} {t t' ty:TypeId} {ps:String} {af:Array Edge} {g:Option (Nat × Bool)} {l1 l2:List UInt8}
  (hg:gOk ops n σ g=true) (hx:ev n σ x=S l1) (hy:ev n σ y=S l2)
  (next:WO P n ops rest Q (Bn σ dst ((.bool (decide (l1=l2))))) w):WO P n ops (⟨dst,.binOp .eql t x y t',ty,ps,af,g⟩::rest) Q σ w :=
 B8 hg (Yv hx hy) next
theorem Y53 {dst:Option Tmp} {x y:Operand} {t t' ty:TypeId} {ps:String} {af:Array Edge} {g:Option (Nat × Bool)} {l1 l2:List UInt8}
  (hx:ev n σ x=S l1) (hy:ev n σ y=S l2)
   :
  (execOp (ev n σ) ⟨dst,.binOp .neq t x y t',ty,ps,af,g⟩).run P w = .ok (.value ((.bool (!decide (l1=l2))))) w:=by
 simp[execOp,hx,hy,S,eqGuard,binOp,Op.stringOp,O9,go_sem];rw[Bool.eq_iff_iff];simp
theorem Y54 {dst:Option Tmp} {x y:Operand} {t t' ty:TypeId} {ps:String} {af:Array Edge} {g:Option (Nat × Bool)} {l1 l2:List UInt8}
  (hx:ev n σ x=S l1) (hy:ev n σ y=S l2)
   :
  (execOp (ev n σ) ⟨dst,.binOp .lss t x y t',ty,ps,af,g⟩).run P w = .ok (.value ((.bool (Op.bytesLess l1 l2)))) w:=by
 simp[execOp,hx,hy,S,eqGuard,binOp,Op.stringOp,O9,go_sem]
theorem Rj {dst:Option Tmp} {x y:Operand} {t t' ty:TypeId} {ps:String} {af:Array Edge} {g:Option (Nat × Bool)} {l1 l2:List UInt8}
  (hx:ev n σ x=S l1) (hy:ev n σ y=S l2) (hl:l1.length+l2.length≤9223372036854775807)
   :
  (execOp (ev n σ) ⟨dst,.binOp .add t x y t',ty,ps,af,g⟩).run P w = .ok (.value ((S (l1++l2)))) w:=by
 have h1:¬(((l1.length+l2.length:Nat):Int) > IntKind.i64.max):=by
  have:IntKind.i64.max=9223372036854775807:=by decide
  rw[this];omega
 have h2:(⟨l1.toArray⟩:ByteArray)++⟨l2.toArray⟩=⟨(l1++l2).toArray⟩:=by
  apply ByteArray.ext;simp[ByteArray.data_append]
 simp only[execOp,hx,hy,S,eqGuard,binOp,Op.stringOp,Gx,h2];rw[if_neg h1];simp[go_sem]
theorem Vu {P:Program} {t:TypeId} (w:World) (l:List UInt8) (lo hi:Option Value) (i j:Nat) (ht:P.underlying t=some .string)
  (h1:(lo=none∧i=0)∨∃k,lo=some (.int k (i:Int))) (h2:(hi=none∧j=l.length)∨∃k,hi=some (.int k (j:Int))) (hij:i≤j) (hj:j≤l.length) :
  (Instr.slice t (S l) lo hi none).run P w = .ok (S ((l.take j).drop i)) w:=by
 have he:(⟨l.toArray⟩:ByteArray).extract i j=⟨((l.take j).drop i).toArray⟩:=by
  apply ByteArray.ext;simp[ByteArray.data_extract,List.drop_take]
 have e1:(0:Int)≤(j:Int)∧(j:Int)≤(l.length:Int):=by omega
 have e2:(0:Int)≤(i:Int)∧(i:Int)≤(j:Int):=by omega
 rcases h1 with⟨rfl,rfl⟩|⟨k1,rfl⟩<;>rcases h2 with⟨rfl,rfl⟩|⟨k2,rfl⟩ <;>
  simp[Instr.slice,S,run_underlying ht,Instr.sliceBounds,Instr.sliceBound,asIntOf,Gx,he,e1,e2,go_sem]<;>first|done|(intro h;exfalso;omega)|(split<;>first|(exfalso;omega)|simp_all)|simp_all
theorem Ul {ops:Array Oper} {rest:List Oper} {dst:Option Tmp} {x y:Operand} {t t' ty:TypeId} {ps:String} {af:Array Edge} {g:Option (Nat × Bool)} {l1 l2:List UInt8}
  (hg:gOk ops n σ g=true) (hx:ev n σ x=S l1) (hy:ev n σ y=S l2) (hl:l1.length+l2.length≤9223372036854775807)
  (next:WO P n ops rest Q (Bn σ dst ((S (l1++l2)))) w):WO P n ops (⟨dst,.binOp .add t x y t',ty,ps,af,g⟩::rest) Q σ w :=
 B8 hg (Rj hx hy hl) next
theorem Q86 {dst:Option Tmp} {x y:Operand} {t ty:TypeId} {ps:String} {af:Array Edge} {g:Option (Nat × Bool)} {l:List UInt8} {k:IntKind} {a:Int} {i:Nat}
  (hx:ev n σ x=S l) (hy:ev n σ y = .int k a) (ht:P.underlying t=some .string) (ha:a=(i:Int)) (hi:i≤l.length)
   :
  (execOp (ev n σ) ⟨dst,.slice t x (some y) none none,ty,ps,af,g⟩).run P w = .ok (.value ((S (l.drop i)))) w:=by
 subst ha;have hr:=Vu (P:=P) w l (some (.int k (i:Int))) none i l.length ht (.inr ⟨k,rfl⟩) (.inl ⟨rfl,rfl⟩) hi (Nat.le_refl _);rw[List.take_length] at hr;simp[execOp,Instr.sliceAt,run_underlying ht,hx,hy,hr,go_sem]
theorem Q87 {dst:Option Tmp} {x y:Operand} {t ty:TypeId} {ps:String} {af:Array Edge} {g:Option (Nat × Bool)} {l:List UInt8} {k:IntKind} {a:Int} {j:Nat}
  (hx:ev n σ x=S l) (hy:ev n σ y = .int k a) (ht:P.underlying t=some .string) (ha:a=(j:Int)) (hj:j≤l.length)
   :
  (execOp (ev n σ) ⟨dst,.slice t x none (some y) none,ty,ps,af,g⟩).run P w = .ok (.value ((S (l.take j)))) w:=by
 subst ha;have hr:=Vu (P:=P) w l none (some (.int k (j:Int))) 0 j ht (.inl ⟨rfl,rfl⟩) (.inr ⟨k,rfl⟩) (Nat.zero_le _) hj;rw[List.drop_zero] at hr;simp[execOp,Instr.sliceAt,run_underlying ht,hx,hy,hr,go_sem]
theorem Y4k {ops:Array Oper} {rest:List Oper} {dst:Option Tmp} {x y:Operand} {t ty:TypeId} {ps:String} {af:Array Edge} {g:Option (Nat × Bool)} {l:List UInt8} {k:IntKind} {a:Int} {j:Nat}
  (hg:gOk ops n σ g=true) (hx:ev n σ x=S l) (hy:ev n σ y = .int k a) (ht:P.underlying t=some .string) (ha:a=(j:Int)) (hj:j≤l.length)
  (next:WO P n ops rest Q (Bn σ dst ((S (l.take j)))) w):WO P n ops (⟨dst,.slice t x none (some y) none,ty,ps,af,g⟩::rest) Q σ w :=
 B8 hg (Q87 hx hy ht ha hj) next
end
theorem U0 {P:Program} {ops:Array Oper} {C:World→Prop} {Q Q':Act→Prop} (hq:∀a,Q a→Q' a):∀(l:List Oper) (a:Act),wpQuiet P ops C Q l a→wpQuiet P ops C Q' l a
 |[],a,h=>hq a h
 |o::rest,a,h=>by
  unfold wpQuiet at h ⊢;split
  ·rename_i hw;rw[if_pos hw] at h;obtain⟨v,h1,h2⟩:=h;exact⟨v,h1,U0 hq rest _ h2⟩
  ·rename_i hw;rw[if_neg hw] at h;exact U0 hq rest _ h
def WQ (P:Program) (n:Nat) (ops:Array Oper) (C:World→Prop) (l:List Oper) (K:(Nat→Value)→Prop) (σ:Nat→Value):Prop :=
 wpQuiet P ops C (fun a=>∃σ,a=mk n σ∧K σ) l (mk n σ)
section
variable {P : Program} {n : Nat} {Q : Exit → (Nat → Value) → World → Prop} {K : (Nat → Value) → Prop} {σ : Nat → Value} {w : World} {C : World → Prop}
theorem Y4d {id:Nat} {l:List Oper} (hm:P.follows .mixedOrders=true) (hB:Region.lexB .any l.toArray=true) (hC:C { w with drawn:=w.drawn+1 })
  (h:WQ P n l.toArray C l (fun σ=>∀w',C w'→Q .normal σ w') σ):W P n (.region id l.toArray true) Q σ w:=by
 refine wp_region_quiet hm hB hC ?_;show wpQuiet P l.toArray C (fun a'=>∀w',C w'→lift n Q .normal a' w') l (mk n σ);refine U0 ?_ l _ h;rintro a ⟨σ',rfl,hK⟩ w' hw';exact⟨σ',rfl,hK w' hw'⟩
def Drew (w w':World):Prop:=∃k,w'=w.drewN k
theorem Yj {id:Nat} {l:List Oper} (hm:P.follows .mixedOrders=true) (hB:Region.lexB .any l.toArray=true)
  (h:WQ P n l.toArray (Drew w) l (fun σ=>∀w',Drew w w'→Q .normal σ w') σ):W P n (.region id l.toArray true) Q σ w :=
 Y4d hm hB ⟨1,rfl⟩ h
theorem Yl {ops:Array Oper} (h:K σ):WQ P n ops C [] K σ:=⟨σ,rfl,h⟩
theorem J0 {ops:Array Oper} {o:Oper} {rest:List Oper} {v:Value} (hg:gOk ops n σ o.guard=true) (h:∀w,C w→(execOp (ev n σ) o).run P w = .ok (.value v) w)
  (next:WQ P n ops C rest K (Bn σ o.dst v)):WQ P n ops C (o::rest) K σ:=by
 unfold WQ wpQuiet;rw[wanted_mk,hg,if_pos rfl];refine⟨v,fun w hw=>?_,?_⟩
 ·unfold Oper.quietAt;rw[mk_eval,h w hw];exact⟨rfl,rfl⟩
 ·rw[mk_put];exact next
theorem Fl {ops:Array Oper} {o:Oper} {rest:List Oper} {v:Value} (hg:gOk ops n σ o.guard=true) (h:Jj n σ o.op=some v)
  (next:WQ P n ops C rest K (Bn σ o.dst v)):WQ P n ops C (o::rest) K σ:=J0 hg (fun _ _=>Ji h) next
theorem Y4h {ops:Array Oper} {o:Oper} {rest:List Oper} {f:FuncId} {args:Array Value} {v:Value} (hg:gOk ops n σ o.guard=true)
  (h:∀w,C w→(execOp (ev n σ) o).run P w = .ok (.enter f args) w) (hc:∀w,C w→Calls P f args w (Ret fun v' w'=>v'=v∧C w'))
  (next:WQ P n ops C rest K (Bn σ o.dst v)):WQ P n ops C (o::rest) K σ:=by
 unfold WQ wpQuiet;rw[wanted_mk,hg,if_pos rfl];refine⟨v,fun w hw=>?_,?_⟩
 ·unfold Oper.quietAt;rw[mk_eval,h w hw];refine⟨rfl,(hc w hw).mono ?_⟩;rintro e w' ⟨v',he,hv,hw'⟩;subst hv;exact⟨he,hw'⟩
 ·rw[mk_put];exact next
end
section
variable {P : Program} {n : Nat} {K : (Nat → Value) → Prop} {σ : Nat → Value} {C : World → Prop}
theorem Y4i {ops:Array Oper} {rest:List Oper} {f:FuncId} {ar:Array Operand} {ts:Array TypeId} {ty:TypeId} {ps:String} {dst:Option Tmp} {af:Array Edge} {g:Option (Nat × Bool)} {v:Value}
  (hg:gOk ops n σ g=true) (he:Ai P f) (hc:∀w,C w→Calls P f (ar.toList.map (ev n σ)).toArray w (Ret fun v' w'=>v'=v∧w=w'))
  (next:WQ P n ops C rest K (Bn σ dst v)) :
  WQ P n ops C (⟨dst,.call { callee:=.value (.func f),args:=ar,argTypes:=ts },ty,ps,af,g⟩::rest) K σ:=by
 refine Y4h (f:=f) (args:=(ar.toList.map (ev n σ)).toArray) hg (fun w _=>?_) (fun w hw=>(hc w hw).mono ?_) next
 ·have:ar.map (ev n σ)=(ar.toList.map (ev n σ)).toArray:=by
   apply Array.ext';simp
  simp only[execOp,resolve,ev,this];have:=he (List.map (ev n σ) ar.toList).toArray w;simp[Deferred.ofValue,invoke,go_sem,this]
 ·rintro e w' ⟨v',he,hv,hw'⟩;subst hw';exact⟨v',he,hv,hw⟩
end
attribute [irreducible] WQ
attribute [irreducible] W WO
def New (w w':World) (o:Obj):Prop:=w'=w.alloc o
structure Upd (w w':World) (k:Nat) (o:Obj):Prop where
 os:w'.os=w.os
 tape:w'.tape=w.tape
 output:w'.output=w.output
 size:w'.heap.size=w.heap.size
 here:w'.heap[k]? = some o
 block:∀j,j≠k→w'.heap[j]? = w.heap[j]?
theorem Gb {w:World} {k:Nat} {o:Obj} (h:w.heap[k]? = some o):k < w.heap.size:=(Array.getElem?_eq_some_iff.1 h).1
section
variable {w w' w0 : World} {o x : Obj} {k j B : Nat}
theorem New.size (h:New w w' o):w'.heap.size=w.heap.size+1:=by unfold New at h;subst h;simp
theorem New.here (h:New w w' o):w'.heap[w.heap.size]? = some o:=by unfold New at h;subst h;exact heap_alloc_new w o
theorem New.keep (h:New w w' o) (hk:w.heap[k]? = some x):w'.heap[k]? = some x:=by
 unfold New at h;subst h;exact(heap_alloc_old w o (Gb hk)).trans hk
theorem New.below (h:New w w' o) (hb:Below B w0 w) (hB:B≤w.heap.size):Below B w0 w':=by
 unfold New at h;subst h;exact hb.alloc hB o
theorem New.ext (h:New w w' o):Below w.heap.size w w':=h.below (Below.refl _ _) (Nat.le_refl _)
theorem New.owns {base:Nat} {e:TypeId} {size:Nat} {v:Value} {n:Nat} {xs:List Value} (h:New w w' o) (hw:w.ownsRow base e size v n xs):w'.ownsRow base e size v n xs:=by
 unfold New at h;subst h;exact hw.alloc o
theorem Upd.keep (h:Upd w w' k o) (hj:w.heap[j]? = some x) (hne:j≠k):w'.heap[j]? = some x:=by rw[h.block j hne];exact hj
theorem Upd.below (h:Upd w w' k o) (hb:Below B w0 w) (hB:B≤k):Below B w0 w' :=
 hb.trans ⟨h.os,h.tape,h.output,by rw[h.size];exact Nat.le_refl _,fun i hi=>h.block i (by omega)⟩
theorem Upd.grown (h:Upd w w' k o):w.grownBy w' (some k) :=
 ⟨h.os,h.tape,h.output,by rw[h.size];exact Nat.le_refl _,fun i _ hne=>h.block i (fun e=>hne (by rw[e]))⟩
theorem Upd.owns {base:Nat} {e:TypeId} {size:Nat} {v:Value} {n:Nat} {xs:List Value} (h:Upd w w' k o) (hw:w.ownsRow base e size v n xs) (hne:v.ownBlock≠some k):w'.ownsRow base e size v n xs :=
 hw.kept h.grown (.inr hne)
theorem D8 (h:Below w.heap.size w w') (hk:w.heap[k]? = some x):w'.heap[k]? = some x:=by rw[h.block k (Gb hk)];exact hk
theorem Dg (h:Below w0.heap.size w0 w) (h':Below w.heap.size w w'):Below w0.heap.size w0 w':=h.trans (h'.mono h.size)
theorem Y27 {base:Nat} {e:TypeId} {size:Nat} {v:Value} {n:Nat} {xs:List Value} (h:Below w.heap.size w w') (hw:w.ownsRow base e size v n xs):w'.ownsRow base e size v n xs :=
 hw.kept (row:=none) ⟨h.os,h.tape,h.output,h.size,fun k hk _=>h.block k hk⟩ (by cases hv:v.ownBlock<;>simp)
end
theorem Du {w w':World} {k:Nat} {x:Obj} (h:Drew w w') (hk:w.heap[k]? = some x):w'.heap[k]? = some x:=by obtain⟨m,rfl⟩:=h;exact hk
theorem Drew.ext {w w':World} (h:Drew w w'):Below w.heap.size w w':=by obtain⟨m,rfl⟩:=h;exact⟨rfl,rfl,rfl,Nat.le_refl _,fun _ _=>rfl⟩
theorem Drew.below {w0 w w':World} {B:Nat} (h:Drew w w') (hb:Below B w0 w):Below B w0 w':=by obtain⟨m,rfl⟩:=h;exact⟨hb.os,hb.tape,hb.output,hb.size,hb.block⟩
theorem M0 {l:List UInt8} {p:Nat} (h:p < l.length) (ha:(Af l p).toNat < 128):Utf8.decode ⟨l.toArray⟩ p=((Af l p).toNat,1):=by
 have hs:p < (⟨l.toArray⟩:ByteArray).size:=by rw[Gx];exact h
 have hb:((⟨l.toArray⟩:ByteArray)[p]'hs)=Af l p:=by rw[I5 h];rfl
 have:=decode_ascii ⟨l.toArray⟩ p hs (by rw[hb];exact ha);rw[this,hb]
theorem T9 {l:List UInt8} {p:Nat} (h:p < l.length) (ha:128≤(Af l p).toNat):128≤(Utf8.decode ⟨l.toArray⟩ p).1∧(Utf8.decode ⟨l.toArray⟩ p).1≤1114111∧1≤(Utf8.decode ⟨l.toArray⟩ p).2:=by
 have hg:((⟨l.toArray⟩:ByteArray).get! (p+0)).toNat=(Af l p).toNat:=by
  simp only[ByteArray.get!,Af,Nat.add_zero];rw[List.getD_eq_getElem?_getD];simp[show(default:UInt8)=0 from rfl]
 have hlt:=Q69 l p;unfold Utf8.decode;simp only[hg];rw[if_neg (by omega)];split
 ·split
  ·refine⟨by assumption,?_,by simp⟩;simp only;omega
  ·exact⟨by simp[Utf8.runeError],by simp[Utf8.runeError],by simp⟩
 ·split
  ·split
   ·rename_i h2;simp only[Bool.and_eq_true,decide_eq_true_eq,ge_iff_le] at h2;refine⟨?_,?_,by simp⟩
    ·exact Nat.le_trans (by decide) h2.1
    ·simp only;omega
   ·exact⟨by simp[Utf8.runeError],by simp[Utf8.runeError],by simp⟩
  ·split
   ·split
    ·rename_i h2;simp only[Bool.and_eq_true,decide_eq_true_eq,ge_iff_le] at h2;refine⟨Nat.le_trans (by decide) h2.1,?_,by simp⟩;have hv:=h2.2;simp only[Utf8.valid,Bool.or_eq_true,Bool.and_eq_true,decide_eq_true_eq] at hv;simp only;omega
    ·exact⟨by simp[Utf8.runeError],by simp[Utf8.runeError],by simp⟩
   ·exact⟨by simp[Utf8.runeError],by simp[Utf8.runeError],by simp⟩
section
variable {P : Program} {n : Nat} {Q : Exit → (Nat → Value) → World → Prop} {σ : Nat → Value} {w : World}
variable {ops : Array Oper} {rest : List Oper} {dst : Option Tmp} {ty : TypeId} {ps : String} {af : Array Edge} {g : Option (Nat × Bool)}
theorem Q8h {x:Operand} {t:TypeId} {l:List UInt8} (hg:gOk ops n σ g=true) (hx:ev n σ x=S l) (ht:P.underlying t=some .string)
  (next:∀w',New w w' (.stringIter ⟨l.toArray⟩ 0)→WO P n ops rest Q (Bn σ dst (.pointer (some ⟨w.heap.size,0,none⟩))) w') :
  WO P n ops (⟨dst,.range t x,ty,ps,af,g⟩::rest) Q σ w:=by
 refine B8 hg ?_ (next _ rfl);simp[execOp,Instr.range,hx,S,run_underlying ht,go_sem]
theorem Q8i {x:Operand} {l:List UInt8} {k p:Nat} (hg:gOk ops n σ g=true) (hx:ev n σ x = .pointer (some ⟨k,0,none⟩)) (hk:w.heap[k]? = some (.stringIter ⟨l.toArray⟩ p))
  (more:p < l.length→∀w',Upd w w' k (.stringIter ⟨l.toArray⟩ (p+(Utf8.decode ⟨l.toArray⟩ p).2)) →
   WO P n ops rest Q (Bn σ dst (.tuple #[.bool true,.int .i64 (p:Int),.int .i32 ((Utf8.decode ⟨l.toArray⟩ p).1:Int)])) w')
  (over:¬p < l.length→WO P n ops rest Q (Bn σ dst (.tuple #[.bool false])) w) :
  WO P n ops (⟨dst,.next x true,ty,ps,af,g⟩::rest) Q σ w:=by
 by_cases hp:p < l.length
 ·have hp':p < (⟨l.toArray⟩:ByteArray).size:=by rw[Gx];exact hp
  have hr:=Lib.run_next_any_at (P:=P) w k ⟨l.toArray⟩ p ty hk hp';refine B8 hg (v:=.tuple #[.bool true,.int .i64 (p:Int),.int .i32 ((Utf8.decode ⟨l.toArray⟩ p).1:Int)]) (w':=w.iterAt k ⟨l.toArray⟩ (p+(Utf8.decode ⟨l.toArray⟩ p).2)) ?_ (more hp _ ?_)
  ·simp[execOp,hx,hr,go_sem]
  ·exact⟨rfl,rfl,rfl,Lib.iterAt_size w k _ _,Lib.iterAt_heap w k _ p _ hk,fun j hj=>Lib.iterAt_other w k j _ _ hj⟩
 ·have hp':¬p < (⟨l.toArray⟩:ByteArray).size:=by rw[Gx];exact hp
  have hr:=Lib.run_next_end_at (P:=P) w k ⟨l.toArray⟩ p ty hk hp';exact B8 hg (by simp[execOp,hx,hr,go_sem]) (over hp)
theorem Y6g {x:Operand} {t t':TypeId} {k:IntKind} {a:Int} (hx:ev n σ x = .int k a) (ht:P.underlying t=some (.int k)) (ht':P.underlying t'=some .string) :
  (execOp (ev n σ) ⟨dst,.convert t t' x,ty,ps,af,g⟩).run P w = .ok (.value (.string (Utf8.encode a))) w:=by
 simp[execOp,hx,convert,run_underlying ht,run_underlying ht',Conv.intToString,go_sem]
end
def MapIs (w:World) (b:Nat) (l:List (Value × Value)):Prop:=∃es clock,w.heap[b]? = some (.map es clock)∧es.toList.map (fun e=>(e.key,e.val))=l
theorem MapIs.lt {w:World} {b:Nat} {l:List (Value × Value)} (h:MapIs w b l):b < w.heap.size:=by obtain⟨es,c,h,_⟩:=h;exact Gb h
theorem MapIs.new {w w':World} {b:Nat} {l:List (Value × Value)} {o:Obj} (h:MapIs w b l) (n:New w w' o):MapIs w' b l:=by
 obtain⟨es,c,h,e⟩:=h;exact⟨es,c,n.keep h,e⟩
theorem MapIs.upd {w w':World} {b k:Nat} {l:List (Value × Value)} {o:Obj} (h:MapIs w b l) (u:Upd w w' k o) (hne:b≠k):MapIs w' b l:=by
 obtain⟨es,c,h,e⟩:=h;exact⟨es,c,u.keep h hne,e⟩
theorem MapIs.below {w w':World} {b:Nat} {l:List (Value × Value)} (h:MapIs w b l) (hb:Below w.heap.size w w'):MapIs w' b l:=by
 obtain⟨es,c,h,e⟩:=h;exact⟨es,c,D8 hb h,e⟩
structure Key (P:Program) (kt:TypeId) {κ:Type} [DecidableEq κ] (enc:κ→Value):Prop where
 d:∃d,P.underlying kt=some d∧∀a b,Instr.sameNow d (enc a) (enc b)=some (decide (a=b))
 check:∀(e:Bool) (m:Nat) (v:κ) (w:World),(Instr.checkKey e (m+1) kt (enc v)).run P w = .ok () w
 bits:∀v:κ,Instr.sameBits 10000 (enc v) (enc v)=true
theorem Q7l (a b:List UInt8):((⟨a.toArray⟩:ByteArray) == ⟨b.toArray⟩)=decide (a=b):=by
 have:((⟨a.toArray⟩:ByteArray) == ⟨b.toArray⟩)=(a.toArray == b.toArray):=rfl;rw[this,Bool.eq_iff_iff];simp
theorem Lg {P:Program} {kt:TypeId} (h:P.underlying kt=some .string):Key P kt S where
 d:=⟨_,h,fun a b=>by
  simp only[S,Instr.sameNow,Q7l]⟩
 check e m v w:=by simp[Instr.checkKey,S,run_underlying h]
 bits v:=by simp[S,Instr.sameBits,Q7l]
abbrev I64 (n:Int):Value:=.int .i64 n
theorem Od {P:Program} {kt:TypeId} (h:P.underlying kt=some (.int .i64)):Key P kt I64 where
 d:=⟨_,h,fun a b=>by
  simp only[I64,Instr.sameNow];simp only[if_true,Option.some.injEq]
  rw[Bool.eq_iff_iff];simp⟩
 check e m v w:=by simp[Instr.checkKey,run_underlying h]
 bits v:=by simp[Instr.sameBits]
section
variable {κ α : Type} [DecidableEq κ]
def Bj (m:List (κ × α)) (k:κ):Option α:=(m.find? (fun p=>decide (k=p.1))).map (·.2)
def Es (m:List (κ × α)) (k:κ) (a:α):List (κ × α):=if (Bj m k).isSome then m.map (fun p=>if k=p.1 then (p.1,a) else p) else m++[(k,a)]
def Ds (enc:κ→Value) (val:α→Value) (m:List (κ × α)):List (Value × Value):=m.map fun p=>(enc p.1,val p.2)
theorem X79 {d:TypeDesc} {enc:κ→Value} {val:α→Value} (hd:∀a b,Instr.sameNow d (enc a) (enc b)=some (decide (a=b))) (k:κ) :
  ∀(es:List MapEntry) (m:List (κ × α)) (i:Nat),es.map (fun e=>(e.key,e.val))=Ds enc val m →
   ∃r,Instr.findNow d (enc k) es i=some r∧r.map (·.2)=(Bj m k).map val∧∀j v,r=some (j,v)→i≤j∧(m[j-i]?).map (·.1)=some k∧∀q,q < j-i→(m[q]?).map (·.1)≠some k:=by
 intro es
 induction es with
 |nil =>
  intro m i h
  cases m with
  |nil=>exact⟨none,rfl,rfl,by simp⟩
  |cons p m=>simp[Ds] at h
 |cons e es ih =>
  intro m i h
  cases m with
  |nil=>simp[Ds] at h
  |cons p m =>
   simp only[Ds,List.map_cons,List.cons.injEq,Prod.mk.injEq] at h;obtain⟨⟨hk,hv⟩,hr⟩:=h;simp only[Instr.findNow,hk,hd];by_cases hkp:k=p.1
   ·rw[decide_eq_true hkp];refine⟨some (i,e.val),rfl,?_,?_⟩
    ·simp[Bj,hkp,hv]
    ·intro j v hj;cases hj;simp[hkp]
   ·rw[decide_eq_false hkp];obtain⟨r,h1,h2,h3⟩:=ih m (i+1) (by simpa [Ds] using hr);refine⟨r,h1,?_,?_⟩
    ·rw[h2];simp[Bj,List.find?_cons,hkp]
    ·intro j v hj;obtain⟨a,b,c⟩:=h3 j v hj;refine⟨by omega,?_,?_⟩
     ·rw[show j-i=(j-(i+1))+1 by omega];simpa using b
     ·intro q hq
      cases q with
      |zero=>simp;exact fun h=>hkp h.symm
      |succ q=>simpa using c q (by omega)
theorem Nv {P:Program} {kt:TypeId} {enc:κ→Value} {val:α→Value} (hK:Key P kt enc) (k:κ) (es:List MapEntry) (m:List (κ × α)) (h:es.map (fun e=>(e.key,e.val))=Ds enc val m) (w:World) :
  ∃r,(Instr.findKey kt (enc k) es).run P w = .ok r w∧r.map (·.2)=(Bj m k).map val∧∀j v,r=some (j,v)→(m[j]?).map (·.1)=some k∧∀q,q < j→(m[q]?).map (·.1)≠some k:=by
 obtain⟨d,hd,hs⟩:=hK.d;obtain⟨r,h1,h2,h3⟩:=X79 hs k es m 0 h;refine⟨r,?_,h2,fun j v hj=>?_⟩
 ·simp[Instr.findKey,run_underlying hd,h1]
 ·obtain⟨_,b,c⟩:=h3 j v hj;exact⟨by simpa using b,fun q hq=>c q (by simpa using hq)⟩
theorem Q0g {P:Program} {t kt et:TypeId} {enc:κ→Value} {val:α→Value} {z:Value} (hK:Key P kt enc) (ht:P.underlying t=some (.map kt et)) (hz:∀w,(zeroValue et).run P w = .ok z w)
  (w:World) (b:Nat) (m:List (κ × α)) (k:κ) (hm:MapIs w b (Ds enc val m)) (ok:Bool) :
  (Instr.lookup t (.map (some b)) (enc k) ok).run P w = .ok (bif ok then .tuple #[((Bj m k).map val).getD z,.bool (Bj m k).isSome] else ((Bj m k).map val).getD z) w:=by
 obtain⟨es,clock,hb,he⟩:=hm;obtain⟨r,h1,h2,_⟩:=Nv hK k es.toList m he w;have hc:=hK.check es.isEmpty 9999 k w;simp only[Instr.lookup];simp[run_underlying ht,getObj,Sem.run,hb,hc,h1]
 cases r with
 |none =>
  cases hl:Bj m k with
  |none=>cases ok<;>simp[hz]
  |some a=>rw[hl] at h2;simp at h2
 |some p =>
  cases hl:Bj m k with
  |none=>rw[hl] at h2;simp at h2
  |some a=>rw[hl] at h2;simp at h2;cases ok<;>simp[h2]
theorem Q70 (m:List (κ × α)) (k:κ):Bj m k=none↔∀p∈m,p.1≠k:=by
 unfold Bj;rw[Option.map_eq_none_iff,List.find?_eq_none];simp only[decide_eq_true_eq];exact⟨fun h p hp e=>h p hp e.symm,fun h p hp e=>h p hp e.symm⟩
def Once (m:List (κ × α)):Prop:=(m.map (·.1)).Nodup
theorem Y3o (m:List (κ × α)) (k:κ) (a:α):(Es m k a).map (·.1)=if (Bj m k).isSome then m.map (·.1) else m.map (·.1)++[k]:=by
 unfold Es;split
 ·rw[List.map_map];refine List.map_congr_left fun p _=>?_;simp only[Function.comp];split<;>rfl
 ·simp
theorem Once.put {m:List (κ × α)} (h:Once m) (k:κ) (a:α):Once (Es m k a):=by
 unfold Once at *;rw[Y3o];split
 ·exact h
 ·rename_i hn
  have hn':Bj m k=none:=by simpa using hn
  rw[Q70] at hn';rw[List.nodup_append];refine⟨h,by simp,fun x hx y hy=>?_⟩;simp only[List.mem_singleton] at hy;subst hy;rw[List.mem_map] at hx;obtain⟨p,hp,rfl⟩:=hx;exact hn' p hp
theorem O3 (m:List (κ × α)) (k:κ) (a:α):Bj (Es m k a) k=some a:=by
 unfold Es;split
 ·rename_i h;unfold Bj at h ⊢
  induction m with
  |nil=>simp at h
  |cons p m ih =>
   by_cases hk:k=p.1
   ·simp[hk]
   ·simp only[List.map_cons,if_neg hk,List.find?_cons,decide_eq_false hk] at h ⊢;exact ih h
 ·rename_i h
  have h':Bj m k=none:=by simpa using h
  have h2:=h';unfold Bj at h' ⊢;rw[List.find?_append];simp only[Option.map_eq_none_iff] at h';simp[h']
theorem Y3r (m:List (κ × α)) (k j:κ) (a:α) (hne:j≠k):Bj (Es m k a) j=Bj m j:=by
 unfold Es;split
 ·unfold Bj
  induction m with
  |nil=>rfl
  |cons p m ih =>
   simp only[List.map_cons,List.find?_cons];by_cases hk:k=p.1
   ·rw[if_pos hk];have:¬j=p.1:=fun e=>hne (e.trans hk.symm);rename_i hs;simp only[decide_eq_false this];by_cases hm:(Bj m k).isSome
    ·exact ih hm
    ·have hn:Bj m k=none:=by simpa using hm
     rw[Q70] at hn;rw[List.map_congr_left (g:=id) (fun q hq=>by rw[if_neg (fun e=>hn q hq e.symm)];rfl),List.map_id]
   ·rw[if_neg hk];by_cases hj:j=p.1
    ·simp[hj]
    ·simp only[decide_eq_false hj];rename_i hs;refine ih ?_;unfold Bj at hs ⊢;simpa [List.find?_cons,hk] using hs
 ·unfold Bj;rw[List.find?_append];simp[hne]
theorem X5v {m:List (κ × α)} {k:κ} {a:α} {j:Nat} (ho:Once m) (hj:(m[j]?).map (·.1)=some k):m.map (fun p=>if k=p.1 then (p.1,a) else p)=m.modify j (fun p=>(p.1,a)):=by
 apply List.ext_getElem?;intro i;rw[List.getElem?_map,List.getElem?_modify]
 cases hi:m[i]? with
 |none=>simp
 |some p =>
  simp only[Option.map_some,Option.map_eq_map];by_cases hij:j=i
  ·subst hij;rw[hi] at hj;simp at hj;simp[hj]
  ·rw[if_neg hij];congr 1;rw[if_neg];intro hk;apply hij
   cases hjj:m[j]? with
   |none=>rw[hjj] at hj;simp at hj
   |some q =>
    rw[hjj] at hj;simp at hj
    have h1:(m.map (·.1))[j]? = some k:=by rw[List.getElem?_map,hjj];simp[hj]
    have h2:(m.map (·.1))[i]? = some k:=by rw[List.getElem?_map,hi];simp[hk]
    have hlt:j < (m.map (·.1)).length:=(List.getElem?_eq_some_iff.1 h1).1;exact(List.getElem?_inj hlt ho).1 (h1.trans h2.symm)
theorem X17 {P:Program} {t kt et:TypeId} {enc:κ→Value} {val:α→Value} (hK:Key P kt enc) (ht:P.underlying t=some (.map kt et))
  (w:World) (b:Nat) (m:List (κ × α)) (k:κ) (a:α) (ho:Once m) (hm:MapIs w b (Ds enc val m)) :
  ∃w' o,(Instr.mapUpdate t (.map (some b)) (enc k) (val a)).run P w = .ok () w'∧Upd w w' b o∧MapIs w' b (Ds enc val (Es m k a)):=by
 obtain⟨es,clock,hb,he⟩:=hm;obtain⟨r,h1,h2,h3⟩:=Nv hK k es.toList m he w;have hc:=hK.check false 9999 k w;have hlt:=Gb hb
 have hupd:∀o:Obj,Upd w { w with heap:=w.heap.setIfInBounds b o } b o:=fun o =>
  ⟨rfl,rfl,rfl,by simp,by simp[hlt],fun j hj=>by simp[Array.getElem?_setIfInBounds,Ne.symm hj]⟩
 cases r with
 |none =>
  have hl:Bj m k=none:=by
   cases hl:Bj m k with
   |none=>rfl
   |some x=>rw[hl] at h2;simp at h2
  refine⟨_,.map (es.push { key:=enc k,val:=val a,born:=clock }) (clock+1),?_,hupd _,⟨_,_,(hupd _).here,?_⟩⟩
  ·simp[Instr.mapUpdate,run_underlying ht,getObj,setObj,Sem.run,hb,hc,h1]
  ·simp[Es,hl,Ds,he]
 |some p =>
  obtain⟨j,v⟩:=p;obtain⟨hj,_⟩:=h3 j v rfl
  have hs:(Bj m k).isSome=true:=by
   cases hl:Bj m k with
   |none=>rw[hl] at h2;simp at h2
   |some x=>rfl
  have hkey:((es[j]?).map (·.key))=some (enc k):=by
   have h4:(es.toList.map (fun e=>(e.key,e.val)))[j]? = (Ds enc val m)[j]? :=by rw[he]
   rw[List.getElem?_map] at h4;simp only[Ds,List.getElem?_map] at h4
   cases hmj:m[j]? with
   |none=>rw[hmj] at hj;simp at hj
   |some q =>
    rw[hmj] at hj h4;simp at hj h4;obtain⟨e,he1,he2,_⟩:=h4;simp[he1,he2,hj]
  refine⟨_,.map (es.modify j fun e => { e with key:=enc k,val:=val a }) clock,?_,hupd _,⟨_,_,(hupd _).here,?_⟩⟩
  ·simp[Instr.mapUpdate,run_underlying ht,getObj,setObj,Sem.run,hb,hc,h1,hkey,Instr.keyThatStays,hK.bits]
  ·have e1:(Es m k a)=m.modify j (fun p=>(p.1,a)):=by
    unfold Es;rw[if_pos hs,X5v ho hj]
   rw[e1];have h4:es.toList.map (fun e=>(e.key,e.val))=Ds enc val m:=he;apply List.ext_getElem?;intro i;have h5:=congrArg (·[i]?) h4;simp only[Ds,List.getElem?_map] at h5 ⊢;simp only[Array.toList_modify,List.getElem?_modify];by_cases hij:j=i
   ·subst hij
    cases hmj:m[j]? with
    |none=>rw[hmj] at hj;simp at hj
    |some q =>
     rw[hmj] at h5 hj;simp at h5 hj;obtain⟨e,he1,he2,he3⟩:=h5;simp[he1,hj]
   ·simp only[if_neg hij];simpa using h5
end
section
variable {P : Program} {n : Nat} {Q : Exit → (Nat → Value) → World → Prop} {σ : Nat → Value} {w : World}
variable {ops : Array Oper} {rest : List Oper} {dst : Option Tmp} {ty : TypeId} {ps : String} {af : Array Edge} {g : Option (Nat × Bool)}
variable {κ α : Type} [DecidableEq κ]
theorem Uu {t kt et : TypeId} {x i : Operand} {enc : κ → Value} {val : α → Value} {z : Value} {b : Nat} {m : List (κ × α)} {k : κ} (hx : ev n σ x = .map (some b)) (hi : ev n σ i = enc k) (hm : MapIs w b (Ds enc val m)) (hK : Key P kt enc) (ht : P.underlying t = some (.map kt et)) (hz : ∀ w, (zeroValue et).run P w = .ok z w)
     :
  (execOp (ev n σ) ⟨dst,.lookup t x i false,ty,ps,af,g⟩).run P w = .ok (.value ((((Bj m k).map val).getD z))) w:=by
 have:=Q0g hK ht hz w b m k hm false;simp[execOp,hx,hi,this,go_sem]
theorem Y6b {t kt et : TypeId} {x i : Operand} {enc : κ → Value} {val : α → Value} {z : Value} {b : Nat} {m : List (κ × α)} {k : κ} (hx : ev n σ x = .map (some b)) (hi : ev n σ i = enc k) (hm : MapIs w b (Ds enc val m)) (hK : Key P kt enc) (ht : P.underlying t = some (.map kt et)) (hz : ∀ w, (zeroValue et).run P w = .ok z w)
     :
  (execOp (ev n σ) ⟨dst,.lookup t x i true,ty,ps,af,g⟩).run P w = .ok (.value ((.tuple #[((Bj m k).map val).getD z,.bool (Bj m k).isSome]))) w:=by
 have:=Q0g hK ht hz w b m k hm true;simp[execOp,hx,hi,this,go_sem]
theorem Yp {t:TypeId} {x:Operand} {v:Value} (hg:gOk ops n σ g=true) (hx:ev n σ x=v)
  (next:∀w',New w w' (.cells v.cells t)→WO P n ops rest Q (Bn σ dst (.pointer (some ⟨w.heap.size,0,none⟩))) w') :
  WO P n ops (⟨dst,.box t x,ty,ps,af,g⟩::rest) Q σ w:=by
 refine B8 hg ?_ (next _ rfl);simp[execOp,Instr.box,hx,newVar,newRow,go_sem]
theorem O7 {t:TypeId} {v:Value} (hg:gOk ops n σ g=true) (hz:∀w,(zeroValue t).run P w = .ok v w)
  (next:∀w',New w w' (.cells v.cells t)→WO P n ops rest Q (Bn σ dst (.pointer (some ⟨w.heap.size,0,none⟩))) w') :
  WO P n ops (⟨dst,.alloc t,ty,ps,af,g⟩::rest) Q σ w:=by
 refine B8 hg ?_ (next _ rfl);simp[execOp,Instr.alloc,hz,newVar,newRow,go_sem]
def Gl:TypeDesc→Bool
 |.struct _ | .array _ _=>false
 |_=>true
theorem Q0h {t:TypeId} {d:TypeDesc} (h:P.underlying t=some d) (hd:Gl d=true) (w:World):(isAgg t).run P w = .ok false w:=by
 cases d<;>simp_all [isAgg,run_underlying h,Gl]
theorem Er {w:World} {b o:Nat} {c:Array Value} {e:TypeId} {f:Nat × Nat} {v:Value} (hb:w.heap[b]? = some (.cells c e f)) (hc:c[o]? = some v):w.cell? ⟨b,o,none⟩=some v:=by
 simp[World.cell?,hb,hc]
theorem Rk {t : TypeId} {d : TypeDesc} {x : Operand} {a : Addr} {v : Value} (hx : ev n σ x = .pointer (some a)) (ht : P.underlying t = some d) (hd : Gl d = true) (hc : w.cell? a = some v)
     :
  (execOp (ev n σ) ⟨dst,.load t x,ty,ps,af,g⟩).run P w = .ok (.value (v)) w:=by
 simp[execOp,Instr.loadAt,Instr.sureAddr,hx,loadVar,Q0h ht hd,load,Sem.run,hc,go_sem]
def Mk:Value→Bool
 |.agg _ | .tuple _=>false
 |_=>true
theorem He {t:TypeId} {d:TypeDesc} {x:Operand} {a:Addr} {v:Value} (hg:gOk ops n σ g=true) (hx:ev n σ x = .pointer (some a)) (ht:P.underlying t=some d) (hd:Gl d=true) (hc:w.cell? a=some v)
  (next:WO P n ops rest Q (Bn σ dst (v)) w):WO P n ops (⟨dst,.load t x,ty,ps,af,g⟩::rest) Q σ w :=
 B8 hg (Rk hx ht hd hc) next
theorem O6 {t:TypeId} {x y:Operand} {b o:Nat} {c:Array Value} {e:TypeId} {v:Value} (hg:gOk ops n σ g=true) (hx:ev n σ x = .pointer (some ⟨b,o,none⟩)) (hy:ev n σ y=v)
  (hs:∀w,(sizeOf t).run P w = .ok 1 w) (h1:Mk v=true) (hb:w.heap[b]? = some (.cells c e (0,0))) (ho:o < c.size)
  (next:∀w',Upd w w' b (.cells (c.setIfInBounds o v) e (0,0))→WO P n ops rest Q (Bn σ dst undef) w'):WO P n ops (⟨dst,.store t x y,ty,ps,af,g⟩::rest) Q σ w:=by
 have hcell:w.cell? ⟨b,o,none⟩=some c[o]:=Er hb (by simp[ho])
 have hfr:w.frozen? ⟨b,o,none⟩=false:=by simp[World.frozen?,hb]
 have hcs:v.cells = #[v]:=by cases v<;>first|rfl|simp[Mk] at h1
 refine Hd (w':=w.setCell ⟨b,o,none⟩ v) hg ?_ (next _ ⟨rfl,rfl,rfl,by simp[World.setCell],?_,?_⟩)
 ·cases v<;>first|(simp[Mk] at h1;done)|simp[execOp,Instr.storeAt,Instr.sureAddr,hx,hy,storeVar,hs,Value.cells,storeCells,store,Sem.run,hcell,hfr,Addr.add,go_sem]
 ·have hlt:=Gb hb;have:=(Array.getElem?_eq_some_iff.1 hb).2;simp[World.setCell,Array.getElem?_modify,hb]
 ·intro j hj;simp[World.setCell,Array.getElem?_modify,Ne.symm hj]
theorem O5 {t e:TypeId} {x y:Operand} {b o:Nat} {c c':Array Value} (hg:gOk ops n σ g=true) (hx:ev n σ x = .pointer (some ⟨b,o,none⟩)) (hy:ev n σ y = .agg c')
  (hs:∀w,(sizeOf t).run P w = .ok c'.size w) (h1:c'.all (·.oneCell')=true) (hb:w.heap[b]? = some (.cells c e (0,0))) (ho:o+c'.size≤c.size)
  (next:∀w',Upd w w' b (.cells (c.toList.take o++c'.toList++c.toList.drop (o+c'.size)).toArray e (0,0))→WO P n ops rest Q (Bn σ dst undef) w'):WO P n ops (⟨dst,.store t x y,ty,ps,af,g⟩::rest) Q σ w:=by
 have hr:=run_storeCells_at P b o e c'.toList 0 c w hb (by simpa using ho) (fun v hv=>by rw[Array.all_eq_true_iff_forall_mem] at h1;exact h1 v (by simpa using hv));refine Hd (w':=w.setRow b (c.toList.take (o+0)++c'.toList++c.toList.drop (o+0+c'.toList.length)).toArray) hg ?_ (next _ ⟨rfl,rfl,rfl,by simp[World.setRow],?_,?_⟩)
 ·have hr':(storeCells ⟨b,o,none⟩ c'.toList).run P w = .ok () (w.setRow b (c.toList.take (o+0)++c'.toList++c.toList.drop (o+0+c'.toList.length)).toArray):=hr;simp[execOp,Instr.storeAt,Instr.sureAddr,hx,hy,storeVar,hs,Value.cells,hr',go_sem]
 ·rw[setRow_heap w b c _ e _ hb];simp
 ·intro j hj;exact setRow_other w b j _ hj
theorem Q89 {t e:TypeId} {d:TypeDesc} {x:Operand} {b o m:Nat} {c:Array Value} {fr:Nat × Nat} (hx:ev n σ x = .pointer (some ⟨b,o,none⟩)) (ht:P.underlying t=some d) (hd:Gl d=false)
  (hs:∀w,(sizeOf t).run P w = .ok m w) (hb:w.heap[b]? = some (.cells c e fr)) (ho:o+m≤c.size)
   :
  (execOp (ev n σ) ⟨dst,.load t x,ty,ps,af,g⟩).run P w = .ok (.value ((.agg ((c.toList.drop o).take m).toArray))) w:=by
 have ha:(isAgg t).run P w = .ok true w:=by cases d<;>simp_all [isAgg,run_underlying ht,Gl]
 have hl:((c.toList.drop o).take m).length=m:=by simp;omega
 have hr:=run_loadCells_list (P:=P) w ⟨b,o,none⟩ ((c.toList.drop o).take m) (fun j v hj=>by
  have hadd:(⟨b,o,none⟩:Addr).add j=⟨b,o+j,none⟩:=by unfold Addr.add;split<;>simp_all
  rw[hadd];refine Er hb ?_;rw[List.getElem?_take] at hj;split at hj
  ·rw[List.getElem?_drop] at hj;simpa using hj
  ·cases hj)
 rw[hl] at hr;simp only[loadCells] at hr;simp[execOp,Instr.loadAt,Instr.sureAddr,hx,loadVar,loadCells,ha,hs,hr,go_sem]
theorem X18 {t e:TypeId} (w:World) (d:Nat) (a:Option Addr) (ht:P.underlying t=some (.pointer e)):(Op.equalIn (d+1) t (.pointer a) (.pointer none)).run P w = .ok a.isNone w:=by
 cases a<;>simp[Op.equalIn,run_underlying ht]
theorem Nc {t e:TypeId} {d:TypeDesc} {x:Operand} {b o m:Nat} {c:Array Value} {fr:Nat × Nat} (hg:gOk ops n σ g=true) (hx:ev n σ x = .pointer (some ⟨b,o,none⟩)) (ht:P.underlying t=some d) (hd:Gl d=false)
  (hs:∀w,(sizeOf t).run P w = .ok m w) (hb:w.heap[b]? = some (.cells c e fr)) (ho:o+m≤c.size)
  (next:WO P n ops rest Q (Bn σ dst ((.agg ((c.toList.drop o).take m).toArray))) w):WO P n ops (⟨dst,.load t x,ty,ps,af,g⟩::rest) Q σ w :=
 B8 hg (Q89 hx ht hd hs hb ho) next
theorem Y58 {t t' e : TypeId} {x y : Operand} {a : Option Addr} (hx : ev n σ x = .pointer a) (hy : ev n σ y = .pointer none) (ht : P.underlying t = some (.pointer e))
     :
  (execOp (ev n σ) ⟨dst,.binOp .eql t x y t',ty,ps,af,g⟩).run P w = .ok (.value ((.bool a.isNone))) w:=by
 have h:=X18 w 9999 a ht
 have h2:(binOp .eql t (.pointer a) (.pointer none)).run P w = .ok (.bool a.isNone) w:=by
  cases a<;>simp only[binOp]<;>simp[Op.equal,Op.maxDepth,h]
 simp[execOp,hx,hy,eqGuard,h2,go_sem]
theorem Q8k {t t' e:TypeId} {x y:Operand} {a:Option Addr} (hg:gOk ops n σ g=true) (hx:ev n σ x = .pointer a) (hy:ev n σ y = .pointer none) (ht:P.underlying t=some (.pointer e))
  (next:WO P n ops rest Q (Bn σ dst ((.bool a.isNone))) w):WO P n ops (⟨dst,.binOp .eql t x y t',ty,ps,af,g⟩::rest) Q σ w :=
 B8 hg (Y58 hx hy ht) next
end
def fbTab:List Nat:=[0,4607182418800017408,4611686018427387904,4613937818241073152,4616189618054758400,4617315517961601024,4618441417868443648,4619567317775286272,4620693217682128896,4621256167635550208,4621819117588971520,4622382067542392832,4622945017495814144,4623507967449235456,4624070917402656768,4624633867356078080,4625196817309499392,4625478292286210048,4625759767262920704,4626041242239631360,4626322717216342016,4626604192193052672,4626885667169763328,4627167142146473984,4627448617123184640,4627730092099895296,4628011567076605952,4628293042053316608,4628574517030027264,4628855992006737920,4629137466983448576,4629418941960159232,4629700416936869888,4629841154425225216,4629981891913580544,4630122629401935872,4630263366890291200,4630404104378646528,4630544841867001856,4630685579355357184,4630826316843712512,4630967054332067840,4631107791820423168,4631248529308778496,4631389266797133824,4631530004285489152,4631670741773844480,4631811479262199808]
def fb (n:Nat):Nat:=fbTab.getD n 0
theorem X8m:((List.range 44).all fun a=>(List.range 2).all fun b=>decide (FloatKind.f64.format.add (fb a) (fb b)=some (fb (a+b))))=true:=by kernel_rfl
theorem Q4z {a b:Nat} (ha:a < 44) (hb:b < 2):FloatKind.f64.format.add (fb a) (fb b)=some (fb (a+b)):=by
 have h:=X8m;rw[List.all_eq_true] at h;have h1:=h a (List.mem_range.2 ha);rw[List.all_eq_true] at h1;exact of_decide_eq_true (h1 b (List.mem_range.2 hb))
theorem X8k:((List.range 44).all fun a=>(FloatKind.f64.format.order (fb a) (fb 16) == some .gt) == decide (16 < a))=true:=by kernel_rfl
theorem X8l {a:Nat} (ha:a < 44):(FloatKind.f64.format.order (fb a) (fb 16) == some .gt)=decide (16 < a):=by
 have h:=X8k;rw[List.all_eq_true] at h;exact eq_of_beq (h a (List.mem_range.2 ha))
theorem X8h:((List.range 44).all fun a=>decide ((FloatKind.f64.decode (fb a)).toInt .zero=some (a:Int)))=true:=by kernel_rfl
theorem X8i {a:Nat} (ha:a < 44):(FloatKind.f64.decode (fb a)).toInt .zero=some (a:Int):=by
 have h:=X8h;rw[List.all_eq_true] at h;exact of_decide_eq_true (h a (List.mem_range.2 ha))
def cxv (p:Nat × Nat):Value:=.complex .f64 (fb p.1) (fb p.2)
section
variable {P : Program} {n : Nat} {Q : Exit → (Nat → Value) → World → Prop} {σ : Nat → Value} {w : World}
variable {ops : Array Oper} {rest : List Oper} {dst : Option Tmp} {ty : TypeId} {ps : String} {af : Array Edge} {g : Option (Nat × Bool)}
theorem Y6i {t t' : TypeId} {x y : Operand} {a b c d : Nat} (hx : ev n σ x = cxv (a, b)) (hy : ev n σ y = cxv (c, d)) (ha : a < 44) (hb : b < 44) (hc : c < 2) (hd : d < 2)
     :
  (execOp (ev n σ) ⟨dst,.binOp .add t x y t',ty,ps,af,g⟩).run P w = .ok (.value ((cxv (a+c,b+d)))) w:=by
 simp[execOp,hx,hy,cxv,eqGuard,binOp,Op.complexOp,Op.Complex.arith,Op.floatArith,Q4z ha hc,Q4z hb hd,go_sem]
theorem Y6d {t : TypeId} {x : Operand} {a b : Nat} (hx : ev n σ x = cxv (a, b))
     :
  (execOp (ev n σ) ⟨dst,.call { callee:=.builtin .imag,args := #[x],argTypes := #[t] },ty,ps,af,g⟩).run P w = .ok (.value ((.float .f64 (fb b)))) w:=by
 have e:Builtin.imag_ #[t] ty #[.complex .f64 (fb a) (fb b)]=pure (.float .f64 (fb b)):=rfl;simp[execOp,resolve,invoke,builtin,hx,cxv,e,go_sem]
theorem Y56 {t : TypeId} {x : Operand} {a b : Nat} (hx : ev n σ x = cxv (a, b))
     :
  (execOp (ev n σ) ⟨dst,.call { callee:=.builtin .real,args := #[x],argTypes := #[t] },ty,ps,af,g⟩).run P w = .ok (.value ((.float .f64 (fb a)))) w:=by
 have e:Builtin.real_ #[t] ty #[.complex .f64 (fb a) (fb b)]=pure (.float .f64 (fb a)):=rfl;simp[execOp,resolve,invoke,builtin,hx,cxv,e,go_sem]
theorem Y6f {t t' : TypeId} {x y : Operand} {a : Nat} (hx : ev n σ x = .float .f64 (fb a)) (hy : ev n σ y = .float .f64 (fb 16)) (ha : a < 44)
     :
  (execOp (ev n σ) ⟨dst,.binOp .gtr t x y t',ty,ps,af,g⟩).run P w = .ok (.value ((.bool (decide (16 < a))))) w:=by
 simp only[execOp,hx,hy,eqGuard,binOp,Op.floatCmp];simp[X8l ha,go_sem]
theorem Y6e {t t' : TypeId} {x : Operand} {a : Nat} (hx : ev n σ x = .float .f64 (fb a)) (ht : P.underlying t = some (.float .f64)) (ht' : P.underlying t' = some (.int .i64)) (ha : a < 44)
     :
  (execOp (ev n σ) ⟨dst,.convert t t' x,ty,ps,af,g⟩).run P w = .ok (.value ((.int .i64 (a:Int)))) w:=by
 have h1:IntKind.i64.min≤(a:Int)∧(a:Int)≤IntKind.i64.max:=by
  have e1:IntKind.i64.min = -9223372036854775808:=by decide
  have e2:IntKind.i64.max=9223372036854775807:=by decide
  omega
 simp[execOp,hx,convert,run_underlying ht,run_underlying ht',Conv.floatToInt,X8i ha,go_sem];intro h;omega
end
def RowIs (w:World) (v:Value) (n sz:Nat) (xs:List Value):Prop :=
 xs.length=n*sz∧((n=0∧∃a c,v = .slice a 0 c)∨∃b o c,v = .slice (some ⟨b,o,none⟩) n c∧∀j u,xs[j]? = some u→w.cell? ⟨b,o+j,none⟩=some u)
theorem Q62 {w:World} {a:Addr} {v:Value} (h:w.cell? a=some v):a.block < w.heap.size:=World.block_lt_of_cell? w a h
theorem RowIs.ext {w w':World} {v:Value} {n sz:Nat} {xs:List Value} (h:RowIs w v n sz xs) (hb:Below w.heap.size w w'):RowIs w' v n sz xs:=by
 obtain⟨h1,h2⟩:=h;refine⟨h1,?_⟩;rcases h2 with h2|⟨b,o,c,hv,hc⟩
 ·exact .inl h2
 ·exact .inr ⟨b,o,c,hv,fun j u hu=>by rw[hb.cell (p:=⟨b,o+j,none⟩) (Q62 (hc j u hu))];exact hc j u hu⟩
theorem RowIs.drew {w w':World} {v:Value} {n sz:Nat} {xs:List Value} (h:RowIs w v n sz xs) (hd:Drew w w'):RowIs w' v n sz xs:=by
 obtain⟨k,rfl⟩:=hd;obtain⟨h1,h2⟩:=h;refine⟨h1,?_⟩;rcases h2 with h2|⟨b,o,c,hv,hc⟩
 ·exact .inl h2
 ·exact .inr ⟨b,o,c,hv,fun j u hu=>hc j u hu⟩
theorem RowIs.owned {w:World} {base:Nat} {e:TypeId} {v:Value} {n sz:Nat} {xs:List Value} (h:w.ownsRow base e sz v n xs):RowIs w v n sz xs:=by
 refine⟨h.1,?_⟩;rcases h.2 with⟨rfl,rfl⟩|⟨g,cap,cur,rfl,_,hg,_,_,_,ht⟩
 ·exact .inl ⟨rfl,_,_,rfl⟩
 ·refine .inr ⟨g,0,cap,rfl,fun j u hu=>?_⟩;have:=h.cells (g:=g) rfl j u hu
  have hadd:(⟨g,0,none⟩:Addr).add j=⟨g,0+j,none⟩:=by unfold Addr.add;split<;>simp_all
  rw[hadd] at this;exact this
section
variable {P : Program} {n : Nat} {Q : Exit → (Nat → Value) → World → Prop} {σ : Nat → Value} {w : World}
variable {ops : Array Oper} {rest : List Oper} {dst : Option Tmp} {ty : TypeId} {ps : String} {af : Array Edge} {g : Option (Nat × Bool)}
theorem Y6c {t e:TypeId} {x:Operand} {v:Value} {w0:World} {m sz:Nat} {xs:List Value} (hx:ev n σ x=v) (hr:RowIs w0 v m sz xs) (ht:P.underlying t=some (.slice e)) :
  (execOp (ev n σ) ⟨dst,.call { callee:=.builtin .len,args := #[x],argTypes := #[t] },ty,ps,af,g⟩).run P w = .ok (.value (.int .i64 (m:Int))) w:=by
 rcases hr.2 with⟨rfl,a,c,rfl⟩|⟨b,o,c,rfl,_⟩ <;>
  simp[execOp,resolve,invoke,builtin,Builtin.len_,hx,run_underlying ht,go_sem,goInt]
theorem Y4r {t e:TypeId} {x:Operand} {v:Value} {w0:World} {m sz:Nat} {xs:List Value} (hg:gOk ops n σ g=true) (hx:ev n σ x=v) (hr:RowIs w0 v m sz xs) (ht:P.underlying t=some (.slice e))
  (next:WO P n ops rest Q (Bn σ dst (.int .i64 (m:Int))) w):WO P n ops (⟨dst,.call { callee:=.builtin .len,args := #[x],argTypes := #[t] },ty,ps,af,g⟩::rest) Q σ w :=
 B8 hg (Y6c hx hr ht) next
theorem Q8m {t e:TypeId} {x y:Operand} {v:Value} {m sz:Nat} {xs:List Value} {k:IntKind} {a:Int} {i:Nat} (hg:gOk ops n σ g=true) (hx:ev n σ x=v) (hy:ev n σ y = .int k a)
  (hr:RowIs w v m sz xs) (ht:P.underlying t=some (.slice e)) (hs:∀w,(sizeOf e).run P w = .ok sz w) (ha:a=(i:Int)) (hi:i < m)
  (next:∀b o,(∀j u,j < sz→xs[i*sz+j]? = some u→w.cell? ⟨b,o+j,none⟩=some u)→WO P n ops rest Q (Bn σ dst (.pointer (some ⟨b,o,none⟩))) w) :
  WO P n ops (⟨dst,.indexAddr t x y,ty,ps,af,g⟩::rest) Q σ w:=by
 subst ha;rcases hr.2 with⟨rfl,_⟩|⟨b,o,c,rfl,hc⟩
 ·omega
 ·have hadd:(⟨b,o,none⟩:Addr).add (i*sz)=⟨b,o+i*sz,none⟩:=by unfold Addr.add;split<;>simp_all
  refine B8 hg (v:=.pointer (some ⟨b,o+i*sz,none⟩)) ?_ (next b (o+i*sz) fun j u hj hu=>by rw[Nat.add_assoc];exact hc _ u hu)
  have h1:(0:Int)≤(i:Int)∧(i:Int) < (m:Int):=by omega
  simp[execOp,Instr.indexAt,asIntOf,hx,hy,run_underlying ht,hs,h1,hi,hadd,go_sem]
theorem getElem?_map_list {α:Type} (f:α→Value) (l:List α) (i:Nat) (a:α) (h:l[i]? = some a):(l.map f)[i*1+0]? = some (f a):=by simp[h]
theorem Y4q {t:TypeId} {d:TypeDesc} {x:Operand} {b o:Nat} {vs:List Value} (hg:gOk ops n σ g=true) (hx:ev n σ x = .pointer (some ⟨b,o,none⟩)) (ht:P.underlying t=some d) (hd:Gl d=false)
  (hs:∀w,(sizeOf t).run P w = .ok vs.length w) (hc:∀j u,vs[j]? = some u→w.cell? ⟨b,o+j,none⟩=some u)
  (next:WO P n ops rest Q (Bn σ dst (.agg vs.toArray)) w):WO P n ops (⟨dst,.load t x,ty,ps,af,g⟩::rest) Q σ w:=by
 refine B8 hg ?_ next
 have ha:(isAgg t).run P w = .ok true w:=by cases d<;>simp_all [isAgg,run_underlying ht,Gl]
 have hr:=run_loadCells_list (P:=P) w ⟨b,o,none⟩ vs (fun j v hj=>by
  have hadd:(⟨b,o,none⟩:Addr).add j=⟨b,o+j,none⟩:=by unfold Addr.add;split<;>simp_all
  rw[hadd];exact hc j v hj)
 simp only[loadCells] at hr;simp[execOp,Instr.loadAt,Instr.sureAddr,hx,loadVar,loadCells,ha,hs,hr,go_sem]
theorem Yo {t e:TypeId} {k:Nat} {parts:Array (Nat × Operand)} {cs:Array Value} (hg:gOk ops n σ g=true)
  (h:∀w,(execOp (ev n σ) ⟨dst,.buildSlice t k parts,ty,ps,af,g⟩).run P w = .ok (.value (.slice (some ⟨w.heap.size,0,none⟩) k k)) (w.alloc (.cells cs e)))
  (next:∀w',New w w' (.cells cs e)→WO P n ops rest Q (Bn σ dst (.slice (some ⟨w.heap.size,0,none⟩) k k)) w') :
  WO P n ops (⟨dst,.buildSlice t k parts,ty,ps,af,g⟩::rest) Q σ w:=B8 hg (h w) (next _ rfl)
theorem New.owned {w w':World} {cs:Array Value} {e:TypeId} {base size k:Nat} (h:New w w' (.cells cs e)) (hb:base≤w.heap.size) (hm:k≤9223372036854775807) (hs:cs.size=k*size) :
  w'.ownsRow base e size (.slice (some ⟨w.heap.size,0,none⟩) k k) k cs.toList:=by
 unfold New at h;subst h;exact World.ownsRow_lit w cs k hb (by unfold maxLen;omega) hs
theorem Y4x {t e:TypeId} {x y:Operand} {v:Value} {base m sz bytes:Nat} {xs:List Value} {b k c:Nat} {cs:Array Value} {fr:Nat × Nat}
  (hg:gOk ops n σ g=true) (hx:ev n σ x=v) (hy:ev n σ y = .slice (some ⟨b,0,none⟩) k c) (ht:P.underlying t=some (.slice e))
  (hi:(P.info? e).map (fun i=>(i.zero.map fun z=>z.cells.size,i.size,i.bytes))=some (some sz,sz,bytes)) (hsz:0 < sz) (hown:w.ownsRow base e sz v m xs)
  (hl:cs.size=k*sz) (hnews:w.heap[b]? = some (.cells cs e fr)) (h1:∀u∈cs.toList,u.oneCell'=true)
  (h63:m+k≤9223372036854775807) (hbytes:(m+k)*bytes≤140737488355328) (hbase:base≤w.heap.size)
  (next:∀v' w',w'.ownsRow base e sz v' (m+k) (xs++cs.toList)→w.grownBy w' v.ownBlock→(v'.ownBlock=v.ownBlock∨v'.ownBlock=some w.heap.size)→WO P n ops rest Q (Bn σ dst v') w') :
  WO P n ops (⟨dst,.call { callee:=.builtin .append,args := #[x,y],argTypes := #[t,t] },ty,ps,af,g⟩::rest) Q σ w:=by
 have hadd:∀j,(⟨b,0,none⟩:Addr).add j=⟨b,0+j,none⟩:=fun j=>by unfold Addr.add;split<;>simp_all
 obtain⟨i,hi,z,hz,hzs,hsize,hby⟩:∃i,P.info? e=some i∧∃z,i.zero=some z∧z.cells.size=sz∧i.size=sz∧i.bytes=bytes:=by
  rw[Option.map_eq_some_iff] at hi;obtain⟨i,h,h'⟩:=hi;simp only[Prod.mk.injEq,Option.map_eq_some_iff] at h';obtain⟨⟨z,a,b⟩,c,d⟩:=h';exact⟨i,h,z,a,b,c,d⟩
 obtain⟨v',w',hr,h2,h3,_,h5⟩:=run_append_own_at (P:=P) w base t ty e i z sz bytes ht hi hz hsize hby hzs hsz v m xs hown ⟨b,0,none⟩ k c cs.toList (by simpa using hl)
  (fun j u hu=>by rw[hadd,Nat.zero_add];exact Er hnews (by simpa using hu)) h1 (by unfold maxLen;omega) hbytes hbase
 refine B8 hg ?_ (next v' w' h2 h3 h5);simp only[execOp,resolve,invoke,builtin,Sem.run_bind,Sem.run_pure,Result.andThen_ok,List.map_toArray,List.map_cons,List.map_nil,hx,hy,hr]
end
section
variable {w w' w0 : World} {base base' sz sz' m m' : Nat} {e e' : TypeId} {v v' : Value} {xs xs' : List Value}
theorem Q4k {k:Nat} {x:Obj} {row:Option Nat} (g:w.grownBy w' row) (h:w.heap[k]? = some x) (hne:some k≠row):w'.heap[k]? = some x:=by rw[g.block k (Gb h) hne];exact h
theorem N3 {b:Nat} {c:Array Value} {t:TypeId} {fr:Nat × Nat} (o:w.ownsRow base e sz v m xs) (h:w.heap[b]? = some (.cells c t fr)) (hne:t≠e):v.ownBlock≠some b:=by
 rcases o.2 with⟨rfl,_⟩|⟨g,cap,cur,rfl,_,hg,_⟩
 ·simp[Value.ownBlock]
 ·intro hh;simp only[Value.ownBlock,Option.some.injEq] at hh;subst hh;rw[hg] at h;simp at h;exact hne h.2.1.symm
theorem Q61 {b:Nat} {c:Array Value} {t:TypeId} {fr:Nat × Nat} (o:w.ownsRow base e sz v m xs) (h:w.heap[b]? = some (.cells c t fr)) (hne:t≠e):some b≠v.ownBlock:=(N3 o h hne).symm
theorem Q2b (o:w.ownsRow base e sz v m xs):Mk v=true:=by
 rcases o.2 with⟨rfl,_⟩|⟨g,cap,cur,rfl,_⟩<;>rfl
end
def nth {α:Type} [Inhabited α] (l:List α) (i:Nat):α:=(l[i]?).getD default
theorem S4 {α:Type} [Inhabited α] {l:List α} {i:Nat} (h:i < l.length):l[i]? = some (nth l i):=by unfold nth;rw[List.getElem?_eq_getElem h];rfl
section
variable {P : Program} {n : Nat} {Q : Exit → (Nat → Value) → World → Prop} {σ : Nat → Value} {w : World}
variable {ops : Array Oper} {rest : List Oper} {dst : Option Tmp} {ty : TypeId} {ps : String} {af : Array Edge} {g : Option (Nat × Bool)}
theorem Q8l {α:Type} [Inhabited α] {f:α→Value} {l:List α} {t e:TypeId} {x y:Operand} {v:Value} {m i:Nat} {k:IntKind} {a:Int} (hg:gOk ops n σ g=true) (hx:ev n σ x=v) (hy:ev n σ y = .int k a)
  (hr:RowIs w v m 1 (l.map f)) (ht:P.underlying t=some (.slice e)) (hs:∀w,(sizeOf e).run P w = .ok 1 w) (ha:a=(i:Int)) (hi:i < m)
  (next:∀b o,w.cell? ⟨b,o,none⟩=some (f (nth l i))→WO P n ops rest Q (Bn σ dst (.pointer (some ⟨b,o,none⟩))) w) :
  WO P n ops (⟨dst,.indexAddr t x y,ty,ps,af,g⟩::rest) Q σ w:=by
 have hl:l.length=m:=by have:=hr.1;simpa using this
 refine Q8m hg hx hy hr ht hs ha hi fun b o hc=>next b o (hc 0 _ (by omega) (getElem?_map_list f l i _ (S4 (by omega))))
end
end Go.Proofs.YtglcebdfdehidaaGreatDoor
section
namespace Go.Proofs
open Go.Shelf
def Tryz.lays169_ren:Go.Shelf.Ren:=⟨fun|169=>165|n=>n,fun|70=>209|9=>9|0=>0|72=>212|37=>210|127=>242|3=>3|5=>5|n=>n,fun|n=>n⟩
theorem Tryz.lays169:Go.Proofs.Lays.n169 prog Tryz.lays169_ren:={
 mixed:=by kernel_rfl
 f169:=func165.trans (congrArg some (by kernel_rfl))
 t0:=underlying0
 a0:=Tryz.isAgg0
 z0:=Tryz.sizeOf0
 v0:=Tryz.zeroValue0
 t3:=underlying3
 a3:=Tryz.isAgg3
 z3:=Tryz.sizeOf3
 v3:=Tryz.zeroValue3
 t9:=underlying9
 a9:=Tryz.isAgg9
 z9:=Tryz.sizeOf9
 v9:=Tryz.zeroValue9
 t37:=underlying210
 a37:=Tryz.isAgg210
 z37:=Tryz.sizeOf210
 v37:=Tryz.zeroValue210
 t70:=underlying209
 a70:=Tryz.isAgg209
 z70:=Tryz.sizeOf209
 v70:=Tryz.zeroValue209
 t72:=underlying212
 a72:=Tryz.isAgg212
 z72:=Tryz.sizeOf212
 v72:=Tryz.zeroValue212
 t127:=underlying242
 a127:=Tryz.isAgg242
 z127:=Tryz.sizeOf242
 v127:=Tryz.zeroValue242 }
theorem Tryz.Builder_Extra_169:Builder.Extra prog Tryz.lays169_ren:={
 sizeBuilder:=by kernel_rfl
 liesBuilder:=by kernel_rfl
 t5:=underlying5
 a5:=Tryz.isAgg5
 z5:=Tryz.sizeOf5
 v5:=Tryz.zeroValue5
 infoByte:=by kernel_rfl
 cellsByte:=by kernel_rfl
 sizeByte:=by kernel_rfl
 neB5:=by decide }
def Tryz.lays156_ren:Go.Shelf.Ren:=⟨fun|156=>107|165=>163|166=>164|169=>165|240=>195|241=>196|276=>218|277=>219|n=>n,fun|31=>75|9=>9|3=>3|4=>4|0=>0|20=>20|72=>212|76=>216|70=>209|37=>210|75=>215|127=>242|164=>262|5=>5|80=>218|n=>n,fun|n=>n⟩
theorem Tryz.lays156:Go.Proofs.Lays.n156 prog Tryz.lays156_ren:={
 mixed:=by kernel_rfl
 f156:=func107.trans (congrArg some (by kernel_rfl))
 f165:=func163.trans (congrArg some (by kernel_rfl))
 f166:=func164.trans (congrArg some (by kernel_rfl))
 f169:=func165.trans (congrArg some (by kernel_rfl))
 f240:=func195.trans (congrArg some (by kernel_rfl))
 f241:=func196.trans (congrArg some (by kernel_rfl))
 f276:=func218.trans (congrArg some (by kernel_rfl))
 f277:=func219.trans (congrArg some (by kernel_rfl))
 t0:=underlying0
 a0:=Tryz.isAgg0
 z0:=Tryz.sizeOf0
 v0:=Tryz.zeroValue0
 t3:=underlying3
 a3:=Tryz.isAgg3
 z3:=Tryz.sizeOf3
 v3:=Tryz.zeroValue3
 t4:=underlying4
 a4:=Tryz.isAgg4
 z4:=Tryz.sizeOf4
 v4:=Tryz.zeroValue4
 t9:=underlying9
 a9:=Tryz.isAgg9
 z9:=Tryz.sizeOf9
 v9:=Tryz.zeroValue9
 t20:=underlying20
 a20:=Tryz.isAgg20
 z20:=Tryz.sizeOf20
 v20:=Tryz.zeroValue20
 t31:=underlying75
 a31:=Tryz.isAgg75
 z31:=Tryz.sizeOf75
 v31:=Tryz.zeroValue75
 t37:=underlying210
 a37:=Tryz.isAgg210
 z37:=Tryz.sizeOf210
 v37:=Tryz.zeroValue210
 t70:=underlying209
 a70:=Tryz.isAgg209
 z70:=Tryz.sizeOf209
 v70:=Tryz.zeroValue209
 t72:=underlying212
 a72:=Tryz.isAgg212
 z72:=Tryz.sizeOf212
 v72:=Tryz.zeroValue212
 t75:=underlying215
 a75:=Tryz.isAgg215
 z75:=Tryz.sizeOf215
 v75:=Tryz.zeroValue215
 t76:=underlying216
 a76:=Tryz.isAgg216
 z76:=Tryz.sizeOf216
 v76:=Tryz.zeroValue216
 t127:=underlying242
 a127:=Tryz.isAgg242
 z127:=Tryz.sizeOf242
 v127:=Tryz.zeroValue242
 t164:=underlying262
 a164:=Tryz.isAgg262
 z164:=Tryz.sizeOf262
 v164:=Tryz.zeroValue262 }
theorem Tryz.Builder_Extra_156:Builder.Extra prog Tryz.lays156_ren:={
 sizeBuilder:=by kernel_rfl
 liesBuilder:=by kernel_rfl
 t5:=underlying5
 a5:=Tryz.isAgg5
 z5:=Tryz.sizeOf5
 v5:=Tryz.zeroValue5
 infoByte:=by kernel_rfl
 cellsByte:=by kernel_rfl
 sizeByte:=by kernel_rfl
 neB5:=by decide }
open Go.RowKit in
theorem Tryz.strings_Join (bk o c:Nat) (xs:List ByteArray) (sep:ByteArray) (w:World) (hcells:∀(j:Nat) x,xs[j]? = some x→w.cell? ⟨bk,o+j,none⟩=some (.string x)) (hbk:bk < w.heap.size) (hN:xs.length≤140737488355328) (hcap:xs.length≤c) (hlen:(Lib.join (xs.map (·.data.toList)) sep.data.toList).length≤140737488355328) :
  Calls prog 107 #[.slice (some ⟨bk,o,none⟩) xs.length c,.string sep] w fun e w'=>e = .returned (.string ⟨(Lib.join (xs.map (·.data.toList)) sep.data.toList).toArray⟩)∧Below w.heap.size w w':=Any.strings_Join Tryz.lays156 Tryz.Builder_Extra_156 bk o c xs sep w hcells hbk hN hcap hlen
def Tryz.lays161_ren:Go.Shelf.Ren:=⟨fun|161=>221|231=>224|227=>111|233=>226|235=>228|228=>112|197=>237|151=>238|260=>242|152=>109|137=>150|119=>166|224=>167|225=>168|217=>187|266=>216|n=>n,fun|9=>9|4=>4|3=>3|5=>5|117=>175|116=>174|0=>0|124=>220|105=>272|21=>21|119=>277|46=>149|139=>280|138=>279|n=>n,fun|3=>1|4=>2|n=>n⟩
theorem Tryz.lays161:Go.Proofs.Lays.n161 prog Tryz.lays161_ren:={
 mixed:=by kernel_rfl
 f119:=func166.trans (congrArg some (by kernel_rfl))
 f137:=func150.trans (congrArg some (by kernel_rfl))
 f151:=func238.trans (congrArg some (by kernel_rfl))
 f152:=func109.trans (congrArg some (by kernel_rfl))
 f161:=func221.trans (congrArg some (by kernel_rfl))
 f197:=func237.trans (congrArg some (by kernel_rfl))
 f217:=func187.trans (congrArg some (by kernel_rfl))
 f224:=func167.trans (congrArg some (by kernel_rfl))
 f225:=func168.trans (congrArg some (by kernel_rfl))
 f227:=func111.trans (congrArg some (by kernel_rfl))
 f228:=func112.trans (congrArg some (by kernel_rfl))
 f231:=func224.trans (congrArg some (by kernel_rfl))
 f233:=func226.trans (congrArg some (by kernel_rfl))
 f235:=func228.trans (congrArg some (by kernel_rfl))
 f260:=func242.trans (congrArg some (by kernel_rfl))
 f266:=func216.trans (congrArg some (by kernel_rfl))
 t0:=underlying0
 a0:=Tryz.isAgg0
 z0:=Tryz.sizeOf0
 v0:=Tryz.zeroValue0
 t3:=underlying3
 a3:=Tryz.isAgg3
 z3:=Tryz.sizeOf3
 v3:=Tryz.zeroValue3
 t4:=underlying4
 a4:=Tryz.isAgg4
 z4:=Tryz.sizeOf4
 v4:=Tryz.zeroValue4
 t5:=underlying5
 a5:=Tryz.isAgg5
 z5:=Tryz.sizeOf5
 v5:=Tryz.zeroValue5
 t9:=underlying9
 a9:=Tryz.isAgg9
 z9:=Tryz.sizeOf9
 v9:=Tryz.zeroValue9
 t21:=underlying21
 a21:=Tryz.isAgg21
 z21:=Tryz.sizeOf21
 v21:=Tryz.zeroValue21
 t46:=underlying149
 a46:=Tryz.isAgg149
 z46:=Tryz.sizeOf149
 v46:=Tryz.zeroValue149
 t105:=underlying272
 a105:=Tryz.isAgg272
 z105:=Tryz.sizeOf272
 v105:=Tryz.zeroValue272
 t116:=underlying174
 a116:=Tryz.isAgg174
 z116:=Tryz.sizeOf174
 t117:=underlying175
 a117:=Tryz.isAgg175
 z117:=Tryz.sizeOf175
 v117:=Tryz.zeroValue175
 t119:=underlying277
 a119:=Tryz.isAgg277
 z119:=Tryz.sizeOf277
 t124:=underlying220
 a124:=Tryz.isAgg220
 z124:=Tryz.sizeOf220
 v124:=Tryz.zeroValue220
 t138:=underlying279
 a138:=Tryz.isAgg279
 z138:=Tryz.sizeOf279
 v138:=Tryz.zeroValue279
 t139:=underlying280
 a139:=Tryz.isAgg280
 z139:=Tryz.sizeOf280
 v139:=Tryz.zeroValue280
 g3:=by kernel_rfl
 g4:=by kernel_rfl }
open Go.RowKit in
theorem Tryz.strings_TrimLeft_one (s:ByteArray) (c:UInt8) (hc:c.toNat < 128) (w:World) :
  Calls prog 221 #[.string s,.string ⟨#[c]⟩] w fun e w'=>e = .returned (.string ⟨(Lib.trimLeftB s.data.toList c).toArray⟩)∧w'=w:=Any.strings_TrimLeft_one Tryz.lays161 s c hc w
def Tryz.lays160_ren:Go.Shelf.Ren:=⟨fun|160=>204|232=>225|231=>224|227=>111|234=>227|233=>226|236=>229|235=>228|228=>112|271=>239|151=>238|197=>237|120=>243|152=>109|260=>242|137=>150|119=>166|224=>167|225=>168|217=>187|266=>216|n=>n,fun|9=>9|4=>4|3=>3|5=>5|117=>175|116=>174|0=>0|124=>220|21=>21|105=>272|46=>149|119=>277|139=>280|138=>279|n=>n,fun|3=>1|4=>2|n=>n⟩
theorem Tryz.lays160:Go.Proofs.Lays.n160 prog Tryz.lays160_ren:={
 mixed:=by kernel_rfl
 f119:=func166.trans (congrArg some (by kernel_rfl))
 f120:=func243.trans (congrArg some (by kernel_rfl))
 f137:=func150.trans (congrArg some (by kernel_rfl))
 f151:=func238.trans (congrArg some (by kernel_rfl))
 f152:=func109.trans (congrArg some (by kernel_rfl))
 f160:=func204.trans (congrArg some (by kernel_rfl))
 f197:=func237.trans (congrArg some (by kernel_rfl))
 f217:=func187.trans (congrArg some (by kernel_rfl))
 f224:=func167.trans (congrArg some (by kernel_rfl))
 f225:=func168.trans (congrArg some (by kernel_rfl))
 f227:=func111.trans (congrArg some (by kernel_rfl))
 f228:=func112.trans (congrArg some (by kernel_rfl))
 f231:=func224.trans (congrArg some (by kernel_rfl))
 f232:=func225.trans (congrArg some (by kernel_rfl))
 f233:=func226.trans (congrArg some (by kernel_rfl))
 f234:=func227.trans (congrArg some (by kernel_rfl))
 f235:=func228.trans (congrArg some (by kernel_rfl))
 f236:=func229.trans (congrArg some (by kernel_rfl))
 f260:=func242.trans (congrArg some (by kernel_rfl))
 f266:=func216.trans (congrArg some (by kernel_rfl))
 f271:=func239.trans (congrArg some (by kernel_rfl))
 t0:=underlying0
 a0:=Tryz.isAgg0
 z0:=Tryz.sizeOf0
 v0:=Tryz.zeroValue0
 t3:=underlying3
 a3:=Tryz.isAgg3
 z3:=Tryz.sizeOf3
 v3:=Tryz.zeroValue3
 t4:=underlying4
 a4:=Tryz.isAgg4
 z4:=Tryz.sizeOf4
 v4:=Tryz.zeroValue4
 t5:=underlying5
 a5:=Tryz.isAgg5
 z5:=Tryz.sizeOf5
 v5:=Tryz.zeroValue5
 t9:=underlying9
 a9:=Tryz.isAgg9
 z9:=Tryz.sizeOf9
 v9:=Tryz.zeroValue9
 t21:=underlying21
 a21:=Tryz.isAgg21
 z21:=Tryz.sizeOf21
 v21:=Tryz.zeroValue21
 t46:=underlying149
 a46:=Tryz.isAgg149
 z46:=Tryz.sizeOf149
 v46:=Tryz.zeroValue149
 t105:=underlying272
 a105:=Tryz.isAgg272
 z105:=Tryz.sizeOf272
 v105:=Tryz.zeroValue272
 t116:=underlying174
 a116:=Tryz.isAgg174
 z116:=Tryz.sizeOf174
 t117:=underlying175
 a117:=Tryz.isAgg175
 z117:=Tryz.sizeOf175
 v117:=Tryz.zeroValue175
 t119:=underlying277
 a119:=Tryz.isAgg277
 z119:=Tryz.sizeOf277
 t124:=underlying220
 a124:=Tryz.isAgg220
 z124:=Tryz.sizeOf220
 v124:=Tryz.zeroValue220
 t138:=underlying279
 a138:=Tryz.isAgg279
 z138:=Tryz.sizeOf279
 v138:=Tryz.zeroValue279
 t139:=underlying280
 a139:=Tryz.isAgg280
 z139:=Tryz.sizeOf280
 v139:=Tryz.zeroValue280
 g3:=by kernel_rfl
 g4:=by kernel_rfl }
open Go.RowKit in
theorem Tryz.strings_Trim_one (s:ByteArray) (c:UInt8) (hc:c.toNat < 128) (w:World) (hs:s.size≤9223372036854775807) :
  Calls prog 204 #[.string s,.string ⟨#[c]⟩] w fun e w'=>e = .returned (.string ⟨(Lib.trimB s.data.toList c).toArray⟩)∧(w'=w∨w'=w.drew):=Any.strings_Trim_one Tryz.lays160 s c hc w hs
def Tryz.lays106_ren:Go.Shelf.Ren:=⟨fun|106=>231|213=>240|265=>244|n=>n,fun|9=>9|3=>3|n=>n,fun|n=>n⟩
theorem Tryz.lays106:Go.Proofs.Lays.n106 prog Tryz.lays106_ren:={
 mixed:=by kernel_rfl
 f106:=func231.trans (congrArg some (by kernel_rfl))
 f213:=func240.trans (congrArg some (by kernel_rfl))
 f265:=func244.trans (congrArg some (by kernel_rfl))
 t3:=underlying3
 a3:=Tryz.isAgg3
 z3:=Tryz.sizeOf3
 v3:=Tryz.zeroValue3
 t9:=underlying9
 a9:=Tryz.isAgg9
 z9:=Tryz.sizeOf9
 v9:=Tryz.zeroValue9 }
open Go.RowKit in
theorem Tryz.strings_Compare (a b:ByteArray) (w:World) :
  Calls prog 231 #[.string a,.string b] w fun e w'=>e = .returned (.int .i64 (Lib.compareBytes a.data.toList b.data.toList))∧w'=w:=Any.strings_Compare Tryz.lays106 a b w
def Tryz.lays137_ren:Go.Shelf.Ren:=⟨fun|137=>150|217=>187|266=>216|n=>n,fun|9=>9|5=>5|3=>3|n=>n,fun|n=>n⟩
theorem Tryz.lays137:Go.Proofs.Lays.n137 prog Tryz.lays137_ren:={
 mixed:=by kernel_rfl
 f137:=func150.trans (congrArg some (by kernel_rfl))
 f217:=func187.trans (congrArg some (by kernel_rfl))
 f266:=func216.trans (congrArg some (by kernel_rfl))
 t3:=underlying3
 a3:=Tryz.isAgg3
 z3:=Tryz.sizeOf3
 v3:=Tryz.zeroValue3
 t5:=underlying5
 a5:=Tryz.isAgg5
 z5:=Tryz.sizeOf5
 v5:=Tryz.zeroValue5
 t9:=underlying9
 a9:=Tryz.isAgg9
 z9:=Tryz.sizeOf9
 v9:=Tryz.zeroValue9 }
open Go.RowKit in
theorem Tryz.strings_IndexByte (s:ByteArray) (c:Int) (w:World) :
  Calls prog 150 #[.string s,.int .u8 c] w fun e w'=>e = .returned (.int .i64 (Lib.indexByte s.data.toList c.toNat.toUInt8))∧w'=w:=Any.strings_IndexByte Tryz.lays137 s c w
open Go.RowKit in
theorem Tryz.Builder_String_any_k (B b:Nat) (l:List UInt8) (w:World) (h:Lib.IsBuilderF 212 5 B b (Lib.byteCells l) w) (hBw:B≤w.heap.size) :
  Calls prog 165 #[.pointer (some ⟨b,0,none⟩)] w fun e w'=>e = .returned (.string ⟨l.toArray⟩)∧(Lib.IsBuilderF 212 5 B b (Lib.byteCells l) w'∧Below B w w'∧Lib.OthersKept 5 (some b) w w'):=Any.Builder_String_any_k Tryz.lays169 Tryz.Builder_Extra_169 B b l w h hBw
def Tryz.lays219_ren:Go.Shelf.Ren:=⟨fun|219=>217|217=>187|225=>168|224=>167|267=>236|266=>216|314=>241|n=>n,fun|9=>9|3=>3|4=>4|5=>5|46=>149|146=>275|51=>196|n=>n,fun|1=>0|n=>n⟩
theorem Tryz.lays219:Go.Proofs.Lays.n219 prog Tryz.lays219_ren:={
 mixed:=by kernel_rfl
 f217:=func187.trans (congrArg some (by kernel_rfl))
 f219:=func217.trans (congrArg some (by kernel_rfl))
 f224:=func167.trans (congrArg some (by kernel_rfl))
 f225:=func168.trans (congrArg some (by kernel_rfl))
 f266:=func216.trans (congrArg some (by kernel_rfl))
 f267:=func236.trans (congrArg some (by kernel_rfl))
 f314:=func241.trans (congrArg some (by kernel_rfl))
 t3:=underlying3
 a3:=Tryz.isAgg3
 z3:=Tryz.sizeOf3
 v3:=Tryz.zeroValue3
 t4:=underlying4
 a4:=Tryz.isAgg4
 z4:=Tryz.sizeOf4
 v4:=Tryz.zeroValue4
 t5:=underlying5
 a5:=Tryz.isAgg5
 z5:=Tryz.sizeOf5
 v5:=Tryz.zeroValue5
 t9:=underlying9
 a9:=Tryz.isAgg9
 z9:=Tryz.sizeOf9
 v9:=Tryz.zeroValue9
 t46:=underlying149
 a46:=Tryz.isAgg149
 z46:=Tryz.sizeOf149
 v46:=Tryz.zeroValue149
 t51:=underlying196
 a51:=Tryz.isAgg196
 z51:=Tryz.sizeOf196
 v51:=Tryz.zeroValue196
 t146:=underlying275
 a146:=Tryz.isAgg275
 z146:=Tryz.sizeOf275
 v146:=Tryz.zeroValue275
 g1:=by kernel_rfl }
open Go.RowKit Go.Lib in
theorem Tryz.stringslite_Index_one (s:ByteArray) (c:UInt8) (w:World) :
  Calls prog 217 #[.string s,.string ⟨#[c]⟩] w fun e w'=>e = .returned (.int .i64 (Lib.indexByte s.data.toList c))∧w'=w:=Any.stringslite_Index_one Tryz.lays219 s c w
def Tryz.lays144_ren:Go.Shelf.Ren:=⟨fun|144=>154|143=>190|219=>217|217=>187|225=>168|224=>167|267=>236|266=>216|314=>241|n=>n,fun|9=>9|4=>4|3=>3|5=>5|46=>149|146=>275|51=>196|n=>n,fun|1=>0|n=>n⟩
theorem Tryz.lays144:Go.Proofs.Lays.n144 prog Tryz.lays144_ren:={
 mixed:=by kernel_rfl
 f143:=func190.trans (congrArg some (by kernel_rfl))
 f144:=func154.trans (congrArg some (by kernel_rfl))
 f217:=func187.trans (congrArg some (by kernel_rfl))
 f219:=func217.trans (congrArg some (by kernel_rfl))
 f224:=func167.trans (congrArg some (by kernel_rfl))
 f225:=func168.trans (congrArg some (by kernel_rfl))
 f266:=func216.trans (congrArg some (by kernel_rfl))
 f267:=func236.trans (congrArg some (by kernel_rfl))
 f314:=func241.trans (congrArg some (by kernel_rfl))
 t3:=underlying3
 a3:=Tryz.isAgg3
 z3:=Tryz.sizeOf3
 v3:=Tryz.zeroValue3
 t4:=underlying4
 a4:=Tryz.isAgg4
 z4:=Tryz.sizeOf4
 v4:=Tryz.zeroValue4
 t5:=underlying5
 a5:=Tryz.isAgg5
 z5:=Tryz.sizeOf5
 v5:=Tryz.zeroValue5
 t9:=underlying9
 a9:=Tryz.isAgg9
 z9:=Tryz.sizeOf9
 v9:=Tryz.zeroValue9
 t46:=underlying149
 a46:=Tryz.isAgg149
 z46:=Tryz.sizeOf149
 v46:=Tryz.zeroValue149
 t51:=underlying196
 a51:=Tryz.isAgg196
 z51:=Tryz.sizeOf196
 v51:=Tryz.zeroValue196
 t146:=underlying275
 a146:=Tryz.isAgg275
 z146:=Tryz.sizeOf275
 v146:=Tryz.zeroValue275
 g1:=by kernel_rfl }
open Go.RowKit Go.Lib in
theorem Tryz.strings_Contains_one (s:ByteArray) (c:UInt8) (w:World) :
  Calls prog 154 #[.string s,.string ⟨#[c]⟩] w fun e w'=>e = .returned (.bool (decide (0≤Lib.indexByte s.data.toList c)))∧w'=w:=Any.strings_Contains_one Tryz.lays144 s c w
def Tryz.lays189_ren:Go.Shelf.Ren:=⟨fun|189=>47|125=>79|257=>78|128=>143|129=>144|294=>134|295=>135|296=>136|297=>137|298=>138|299=>139|216=>140|300=>141|301=>142|328=>182|329=>183|330=>184|331=>185|332=>186|215=>132|343=>215|n=>n,fun|28=>26|3=>3|46=>149|0=>0|51=>196|53=>198|4=>4|183=>188|182=>187|131=>193|5=>5|9=>9|218=>235|222=>239|228=>260|229=>233|n=>n,fun|n=>n⟩
theorem Tryz.lays189:Go.Proofs.Lays.n189 prog Tryz.lays189_ren:={
 mixed:=by kernel_rfl
 f125:=func79.trans (congrArg some (by kernel_rfl))
 f128:=func143.trans (congrArg some (by kernel_rfl))
 f129:=func144.trans (congrArg some (by kernel_rfl))
 f189:=func47.trans (congrArg some (by kernel_rfl))
 f215:=func132.trans (congrArg some (by kernel_rfl))
 f216:=func140.trans (congrArg some (by kernel_rfl))
 f257:=func78.trans (congrArg some (by kernel_rfl))
 f294:=func134.trans (congrArg some (by kernel_rfl))
 f295:=func135.trans (congrArg some (by kernel_rfl))
 f296:=func136.trans (congrArg some (by kernel_rfl))
 f297:=func137.trans (congrArg some (by kernel_rfl))
 f298:=func138.trans (congrArg some (by kernel_rfl))
 f299:=func139.trans (congrArg some (by kernel_rfl))
 f300:=func141.trans (congrArg some (by kernel_rfl))
 f301:=func142.trans (congrArg some (by kernel_rfl))
 f328:=func182.trans (congrArg some (by kernel_rfl))
 f329:=func183.trans (congrArg some (by kernel_rfl))
 f330:=func184.trans (congrArg some (by kernel_rfl))
 f331:=func185.trans (congrArg some (by kernel_rfl))
 f332:=func186.trans (congrArg some (by kernel_rfl))
 f343:=func215.trans (congrArg some (by kernel_rfl))
 t0:=underlying0
 a0:=Tryz.isAgg0
 z0:=Tryz.sizeOf0
 v0:=Tryz.zeroValue0
 t3:=underlying3
 a3:=Tryz.isAgg3
 z3:=Tryz.sizeOf3
 v3:=Tryz.zeroValue3
 t4:=underlying4
 a4:=Tryz.isAgg4
 z4:=Tryz.sizeOf4
 v4:=Tryz.zeroValue4
 t5:=underlying5
 a5:=Tryz.isAgg5
 z5:=Tryz.sizeOf5
 v5:=Tryz.zeroValue5
 t9:=underlying9
 a9:=Tryz.isAgg9
 z9:=Tryz.sizeOf9
 v9:=Tryz.zeroValue9
 t28:=underlying26
 a28:=Tryz.isAgg26
 z28:=Tryz.sizeOf26
 v28:=Tryz.zeroValue26
 t46:=underlying149
 a46:=Tryz.isAgg149
 z46:=Tryz.sizeOf149
 v46:=Tryz.zeroValue149
 t51:=underlying196
 a51:=Tryz.isAgg196
 z51:=Tryz.sizeOf196
 v51:=Tryz.zeroValue196
 t53:=underlying198
 a53:=Tryz.isAgg198
 z53:=Tryz.sizeOf198
 v53:=Tryz.zeroValue198
 t131:=underlying193
 a131:=Tryz.isAgg193
 z131:=Tryz.sizeOf193
 v131:=Tryz.zeroValue193
 t182:=underlying187
 a182:=Tryz.isAgg187
 z182:=Tryz.sizeOf187
 v182:=Tryz.zeroValue187
 t183:=underlying188
 a183:=Tryz.isAgg188
 z183:=Tryz.sizeOf188
 v183:=Tryz.zeroValue188
 t218:=underlying235
 a218:=Tryz.isAgg235
 z218:=Tryz.sizeOf235
 v218:=Tryz.zeroValue235
 t222:=underlying239
 a222:=Tryz.isAgg239
 z222:=Tryz.sizeOf239
 v222:=Tryz.zeroValue239
 t228:=underlying260
 a228:=Tryz.isAgg260
 z228:=Tryz.sizeOf260
 v228:=Tryz.zeroValue260
 t229:=underlying233
 a229:=Tryz.isAgg233
 z229:=Tryz.sizeOf233
 v229:=Tryz.zeroValue233 }
open Go.Sort Go.RowKit in
theorem Tryz.slices_Sort_int (blk off cap:Nat) (zs:List Int) (w:World) (hH:Holds (Value.int .i64) w blk off zs.toArray) (hblk:blk < w.heap.size) (hsz:zs.length < 4611686018427387904) :
  Calls prog 47 #[.slice (some ⟨blk,off,none⟩) zs.length cap] w fun e w' =>
   e = .returned (.tuple #[])∧∃n os,w'=grow (putRow (Value.int .i64) (Sort.ahead w n) blk off (zs.mergeSort fun x y=>decide (x≤y)).toArray) os:=Any.slices_Sort_int Tryz.lays189 blk off cap zs w hH hblk hsz
def Tryz.laysGw15_ren:Go.Shelf.Ren:=⟨fun|15=>88|20=>146|n=>n,fun|9=>9|23=>153|3=>3|4=>4|0=>0|21=>21|n=>n,fun|n=>n⟩
theorem Tryz.laysGw15:Go.Proofs.LaysGw.n15 prog Tryz.laysGw15_ren:={
 mixed:=by kernel_rfl
 f15:=func88.trans (congrArg some (by kernel_rfl))
 f20:=func146.trans (congrArg some (by kernel_rfl))
 t0:=underlying0
 a0:=Tryz.isAgg0
 z0:=Tryz.sizeOf0
 v0:=Tryz.zeroValue0
 i0:=by kernel_rfl
 t3:=underlying3
 a3:=Tryz.isAgg3
 z3:=Tryz.sizeOf3
 v3:=Tryz.zeroValue3
 i3:=by kernel_rfl
 t4:=underlying4
 a4:=Tryz.isAgg4
 z4:=Tryz.sizeOf4
 v4:=Tryz.zeroValue4
 i4:=by kernel_rfl
 t9:=underlying9
 a9:=Tryz.isAgg9
 z9:=Tryz.sizeOf9
 v9:=Tryz.zeroValue9
 i9:=by kernel_rfl
 t21:=underlying21
 a21:=Tryz.isAgg21
 z21:=Tryz.sizeOf21
 v21:=Tryz.zeroValue21
 i21:=by kernel_rfl
 t23:=underlying153
 a23:=Tryz.isAgg153
 z23:=Tryz.sizeOf153
 v23:=Tryz.zeroValue153
 i23:=by kernel_rfl }
def Tryz.lays152_ren:Go.Shelf.Ren:=⟨fun|152=>109|137=>150|119=>166|224=>167|225=>168|217=>187|266=>216|n=>n,fun|9=>9|21=>21|3=>3|4=>4|5=>5|0=>0|46=>149|n=>n,fun|n=>n⟩
theorem Tryz.lays152:Go.Proofs.Lays.n152 prog Tryz.lays152_ren:={
 mixed:=by kernel_rfl
 f119:=func166.trans (congrArg some (by kernel_rfl))
 f137:=func150.trans (congrArg some (by kernel_rfl))
 f152:=func109.trans (congrArg some (by kernel_rfl))
 f217:=func187.trans (congrArg some (by kernel_rfl))
 f224:=func167.trans (congrArg some (by kernel_rfl))
 f225:=func168.trans (congrArg some (by kernel_rfl))
 f266:=func216.trans (congrArg some (by kernel_rfl))
 t0:=underlying0
 a0:=Tryz.isAgg0
 z0:=Tryz.sizeOf0
 v0:=Tryz.zeroValue0
 t3:=underlying3
 a3:=Tryz.isAgg3
 z3:=Tryz.sizeOf3
 v3:=Tryz.zeroValue3
 t4:=underlying4
 a4:=Tryz.isAgg4
 z4:=Tryz.sizeOf4
 v4:=Tryz.zeroValue4
 t5:=underlying5
 a5:=Tryz.isAgg5
 z5:=Tryz.sizeOf5
 v5:=Tryz.zeroValue5
 t9:=underlying9
 a9:=Tryz.isAgg9
 z9:=Tryz.sizeOf9
 v9:=Tryz.zeroValue9
 t21:=underlying21
 a21:=Tryz.isAgg21
 z21:=Tryz.sizeOf21
 v21:=Tryz.zeroValue21
 t46:=underlying149
 a46:=Tryz.isAgg149
 z46:=Tryz.sizeOf149
 v46:=Tryz.zeroValue149 }
open Go.RowKit Go.Lib in
theorem Tryz.strings_IndexRune_ascii (s:ByteArray) (r:Int) (w:World) (h0:0≤r) (h1:r < 128) :
  Calls prog 109 #[.string s,.int .i32 r] w fun e w'=>e = .returned (.int .i64 (Lib.indexByte s.data.toList r.toNat.toUInt8))∧w'=w:=Any.strings_IndexRune_ascii Tryz.lays152 s r w h0 h1
def Tryz.lays227_ren:Go.Shelf.Ren:=⟨fun|227=>111|n=>n,fun|9=>9|116=>174|4=>4|0=>0|3=>3|5=>5|n=>n,fun|n=>n⟩
theorem Tryz.lays227:Go.Proofs.Lays.n227 prog Tryz.lays227_ren:={
 mixed:=by kernel_rfl
 f227:=func111.trans (congrArg some (by kernel_rfl))
 t0:=underlying0
 a0:=Tryz.isAgg0
 z0:=Tryz.sizeOf0
 v0:=Tryz.zeroValue0
 t3:=underlying3
 a3:=Tryz.isAgg3
 z3:=Tryz.sizeOf3
 v3:=Tryz.zeroValue3
 t4:=underlying4
 a4:=Tryz.isAgg4
 z4:=Tryz.sizeOf4
 v4:=Tryz.zeroValue4
 t5:=underlying5
 a5:=Tryz.isAgg5
 z5:=Tryz.sizeOf5
 v5:=Tryz.zeroValue5
 t9:=underlying9
 a9:=Tryz.isAgg9
 z9:=Tryz.sizeOf9
 v9:=Tryz.zeroValue9
 t116:=underlying174
 a116:=Tryz.isAgg174
 z116:=Tryz.sizeOf174 }
open Go.RowKit Go.Lib in
theorem Tryz.strings_makeASCIISet (hv116:∀w,(zeroValue 174).run prog w = .ok (.agg (Array.replicate 256 (.bool false))) w) (chars:ByteArray) (w:World) (hs:chars.size < 4294967281) (hascii:∀(j:Nat) b,chars.data.toList[j]? = some b→b.toNat < 128) :
  Calls prog 111 #[.string chars] w fun e w'=>e = .returned (.tuple #[.agg (Lib.setCells chars.data.toList),.bool true])∧w'=w.alloc (.cells (Lib.setCells chars.data.toList) 174):=Any.strings_makeASCIISet Tryz.lays227 hv116 (by kernel_rfl) chars w hs hascii
def Tryz.lays228_ren:Go.Shelf.Ren:=⟨fun|228=>112|n=>n,fun|124=>220|5=>5|4=>4|0=>0|116=>174|n=>n,fun|n=>n⟩
theorem Tryz.lays228:Go.Proofs.Lays.n228 prog Tryz.lays228_ren:={
 mixed:=by kernel_rfl
 f228:=func112.trans (congrArg some (by kernel_rfl))
 t0:=underlying0
 a0:=Tryz.isAgg0
 z0:=Tryz.sizeOf0
 v0:=Tryz.zeroValue0
 t4:=underlying4
 a4:=Tryz.isAgg4
 z4:=Tryz.sizeOf4
 v4:=Tryz.zeroValue4
 t5:=underlying5
 a5:=Tryz.isAgg5
 z5:=Tryz.sizeOf5
 v5:=Tryz.zeroValue5
 t116:=underlying174
 a116:=Tryz.isAgg174
 z116:=Tryz.sizeOf174
 t124:=underlying220
 a124:=Tryz.isAgg220
 z124:=Tryz.sizeOf220
 v124:=Tryz.zeroValue220 }
open Go.RowKit Go.Lib in
theorem Tryz.asciiSet_contains (b:Nat) (x:UInt8) (v:Bool) (w:World) (hc:w.cell? ⟨b,x.toNat,none⟩=some (.bool v)) :
  Calls prog 112 #[.pointer (some ⟨b,0,none⟩),.int .u8 x.toNat] w fun e w'=>e = .returned (.bool v)∧w'=w:=Any.asciiSet_contains Tryz.lays228 b x v w hc
open Go.RowKit Go.Lib in
theorem Tryz.strings_IndexFunc_grows (g:Nat) (lb:Array Value) (eg:∀args w,(callFunc g args).run prog w = .ok (.enter g args) w) (p:Nat→Bool) (s:ByteArray) (w:World) (hp:PredGrows prog g lb p w) :
  Calls prog 88 #[.string s,.func (.func g) #[] lb] w fun e w'=>e = .returned (.int .i64 (Lib.idxFunc p true s))∧Below w.heap.size w w':=Any.strings_IndexFunc_grows Tryz.laysGw15 g lb eg p s w hp
def Tryz.laysNm220_ren:Go.Shelf.Ren:=⟨fun|20=>116|n=>n,fun|22=>26|3=>3|4=>4|0=>0|n=>n,fun|n=>n⟩
theorem Tryz.laysNm220:Go.Proofs.Lays2.n20 prog Tryz.laysNm220_ren:={
 mixed:=by kernel_rfl
 f20:=func116.trans (congrArg some (by kernel_rfl))
 t0:=underlying0
 a0:=Tryz.isAgg0
 z0:=Tryz.sizeOf0
 v0:=Tryz.zeroValue0
 t3:=underlying3
 a3:=Tryz.isAgg3
 z3:=Tryz.sizeOf3
 v3:=Tryz.zeroValue3
 t4:=underlying4
 a4:=Tryz.isAgg4
 z4:=Tryz.sizeOf4
 v4:=Tryz.zeroValue4
 t22:=underlying26
 a22:=Tryz.isAgg26
 z22:=Tryz.sizeOf26
 v22:=Tryz.zeroValue26
 i3:=by kernel_rfl }
open Go.RowKit Go.Lib Go.Sort in
theorem Tryz.slices_Compact_int (blk off cap:Nat) (zs:List Int) (w:World) (hH:Holds (Value.int .i64) w blk off zs.toArray) (hsz:zs.length≤9223372036854775807) (hcap:zs.length≤cap) :
  Calls prog 116 #[.slice (some ⟨blk,off,none⟩) zs.length cap] w fun e w'=>e = .returned (.slice (some ⟨blk,off,none⟩) (Lib.compact zs).length cap)∧∃q,w'=putRow (Value.int .i64) (Sort.ahead w q) blk off (Lib.compact zs++List.replicate (zs.length-(Lib.compact zs).length) 0).toArray:=Any.slices_Compact_int Tryz.laysNm220 blk off cap zs w hH hsz hcap
open Go.RowKit Go.Lib Go.Sort in
theorem Tryz.slices_Compact_int_empty (a:Option Addr) (cap:Nat) (w:World) :
  Calls prog 116 #[.slice a 0 cap] w fun e w'=>e = .returned (.slice a 0 cap)∧w'=w:=Any.slices_Compact_int_empty Tryz.laysNm220 a cap w
open Go.RowKit Go.Sort in
theorem Tryz.slices_Sort_int_none (p:Option Addr) (cap:Nat) (w:World) :
  Calls prog 47 #[.slice p 0 cap] w fun e w'=>e = .returned (.tuple #[])∧w'=w:=Any.slices_Sort_int_none Tryz.lays189 p cap w
end Go.Proofs
end
namespace Go.Proofs.YtglcebdfdehidaaGreatDoor
open Go Go.RowKit
theorem Xt {α:Type} [Inhabited α] {l:List α} {i:Nat} (h:i < l.length):l.drop i=nth l i::l.drop (i+1):=by
 rw[List.drop_eq_getElem_cons h];congr 1;unfold nth;rw[List.getElem?_eq_getElem h];rfl
theorem S3 {α β:Type} [Inhabited α] [Inhabited β] (g:α→β) (l:List α) (i:Nat) (h:i < l.length):nth (l.map g) i=g (nth l i):=by
 unfold nth;rw[List.getElem?_map,List.getElem?_eq_getElem h];rfl
theorem Q6 {l:List UInt8} {p:UInt8→Bool} {k:Nat} (h:k < l.length) (ha:(l.take k).all p=true) (hc:p (Af l k)=true):(l.take (k+1)).all p=true:=by
 rw[List.take_succ_eq_append_getElem h];rw[I5 h] at hc;simp only[List.all_append,ha,List.all_cons,List.all_nil,Bool.true_and,Bool.and_true];exact hc
theorem Hv {l:List UInt8} {k:Nat} (h:k < l.length):l.drop k=Af l k::l.drop (k+1):=by rw[List.drop_eq_getElem_cons h,I5 h]
theorem Yh {l:List UInt8} {p:UInt8→Bool} {k:Nat} (h:k < l.length) (hc:p (Af l k)=false):l.all p=false:=by
 rw[List.all_eq_false];rw[I5 h] at hc;exact⟨l[k],List.getElem_mem _,by simpa using hc⟩
theorem Qn {α:Type} {sz:Nat}:∀(css:List (List α)) (i j:Nat),(∀c∈css,c.length=sz)→i < css.length→j < sz→css.flatten[i*sz+j]? = (nth css i)[j]?
 |[],_,_,_,hi,_=>by simp at hi
 |c::r,0,j,h,_,hj=>by
  have hc:=h c (by simp);rw[Nat.zero_mul,Nat.zero_add,List.flatten_cons,List.getElem?_append_left (by omega)];rfl
 |c::r,i+1,j,h,hi,hj=>by
  have hc:=h c (by simp);rw[List.flatten_cons,List.getElem?_append_right (by rw[Nat.succ_mul];omega),show(i+1)*sz+j-c.length=i*sz+j by rw[Nat.succ_mul];omega,Qn r i j (fun x hx=>h x (by simp[hx])) (by simpa using hi) hj];rfl
theorem P2 {α:Type} [Inhabited α] {l:List α} {i:Nat} (h:i < l.length):nth l i∈l:=List.mem_of_getElem? (S4 h)
section
variable {P : Program} {n : Nat} {Q : Exit → (Nat → Value) → World → Prop} {σ : Nat → Value} {w : World}
variable {ops : Array Oper} {rest : List Oper} {dst : Option Tmp} {ty : TypeId} {ps : String} {af : Array Edge} {g : Option (Nat × Bool)}
theorem Y4s {css:List (List Value)} {sz:Nat} {t e:TypeId} {x y:Operand} {v:Value} {m i:Nat} {k:IntKind} {a:Int} (hg:gOk ops n σ g=true) (hx:ev n σ x=v) (hy:ev n σ y = .int k a)
  (hr:RowIs w v m sz css.flatten) (he:∀c∈css,c.length=sz) (hl:css.length=m) (ht:P.underlying t=some (.slice e)) (hs:∀w,(sizeOf e).run P w = .ok sz w) (ha:a=(i:Int)) (hi:i < m)
  (next:∀b o,(∀j u,(nth css i)[j]? = some u→w.cell? ⟨b,o+j,none⟩=some u)→WO P n ops rest Q (Bn σ dst (.pointer (some ⟨b,o,none⟩))) w) :
  WO P n ops (⟨dst,.indexAddr t x y,ty,ps,af,g⟩::rest) Q σ w:=by
 refine Q8m hg hx hy hr ht hs ha hi fun b o hc=>next b o fun j u hu=>?_
 have hj:j < sz:=by rw[←he _ (P2 (by omega:i < css.length))];exact(List.getElem?_eq_some_iff.1 hu).1
 exact hc j u hj (by rw[Qn css i j he (by omega) hj];exact hu)
theorem Y4p {t:TypeId} {d:TypeDesc} {x:Operand} {b o sz:Nat} {vs:List Value} (hg:gOk ops n σ g=true) (hx:ev n σ x = .pointer (some ⟨b,o,none⟩)) (ht:P.underlying t=some d) (hd:Gl d=false)
  (hl:vs.length=sz) (hs:∀w,(sizeOf t).run P w = .ok sz w) (hc:∀j u,vs[j]? = some u→w.cell? ⟨b,o+j,none⟩=some u)
  (next:WO P n ops rest Q (Bn σ dst (.agg vs.toArray)) w):WO P n ops (⟨dst,.load t x,ty,ps,af,g⟩::rest) Q σ w :=
 Y4q hg hx ht hd (by rw[hl];exact hs) hc next
end
section
variable {P : Program} {n : Nat} {σ : Nat → Value} {w : World}
end
def WX (P:Program) (n:Nat) (ops:Array Oper) (Q:(Nat→Value)→World→Prop) (fuel:Nat) (listed:Array Bool) (σ:Nat→Value) (w:World):Prop :=
 wpAny P .any ops (fun e a w=>e = .normal∧∃σ,a=mk n σ∧Q σ w) fuel listed (mk n σ) w
section
variable {P : Program} {n : Nat} {σ : Nat → Value} {w : World}
variable {ops : Array Oper} {Q : (Nat → Value) → World → Prop} {fuel : Nat} {listed : Array Bool}
theorem Ro {o:Oper} {a:Act} {w:World} {K K':Act→World→Prop} {R R':Exit→Act→World→Prop} (h:∀a w,K a w→K' a w) (hp:∀c a w,¬R (.panic c) a w) (ho:¬LetsOut R) (hh:o.wp P a w K R):o.wp P a w K' R':=by
 unfold Oper.wp at *;generalize (execOp a.eval o).run P w=r at *
 cases r with
 |ok n w' =>
  cases n<;>simp only[Oper.upon] at hh ⊢ <;>
   first
    |exact h _ _ hh
    |exact Calls.mono hh (fun e w'' he=>by cases e<;>first|exact h _ _ he|exact absurd he (hp _ _ _)|exact absurd he ho)
    |exact Rows.mono hh (fun _ _ he=>h _ _ he)
 |halt x w'=>cases x<;>simp only[Oper.upon] at hh ⊢ <;> exact absurd hh (hp _ _ _)
end
attribute [irreducible] WX
theorem T6:Ai prog 145:=Am func145
theorem Q46:Ai prog 81:=Am func81
theorem Xf:Ai prog 82:=Am func82
theorem Xe:Ai prog 83:=Am func83
theorem Lr:Ai prog 51:=Am func51
theorem X8x:Ai prog 98:=Am func98
theorem X8w:Ai prog 99:=Am func99
theorem Qv:Ai prog 57:=Am func57
def signsL:List (List UInt8):=[[],[60],[61],[60,61],[62],[60,62],[62,61],[60,61,62]]
def Bv:List (List UInt8):=[[],[],[97,110,100],[111,114],[105,102],[119,105,116,104],[119,105,116,104,111,117,116]]
def Bs:List (List UInt8)→List UInt8→Nat→Int
 |[],_,_ => -1
 |a::r,s,k=>if s=a then k else Bs r s (k+1)
theorem Y9 {l:List (List UInt8)} {i:Nat} (s:List UInt8) (h:i < l.length):Bs (l.drop i) s i=if s=nth l i then (i:Int) else Bs (l.drop (i+1)) s (i+1):=by rw[Xt h,Bs]
theorem X1a (w:World) :
  Calls prog 82 #[] w (Ret fun v w'=>RowIs w' v 8 1 (List.map S signsL)∧Below w.heap.size w w'):=by
 refine D1 func82 rfl ntmps82 ?_;refine W_seq (W_reg ?_);refine Ah (v:=(.slice none 0 0)) rfl rfl (A0 ?_);refine W_seq (W_reg ?_);refine Yo (k:=8) (cs := #[(S []),(S ([60])),(S ([61])),(S ([60,61])),(S ([62])),(S ([60,62])),(S ([62,61])),(S ([60,61,62]))]) (e:=9) rfl (fun _=>by kernel_rfl) (fun w1 n1=>?_);have e1:w1.heap[w.heap.size]? = some (.cells #[(S []),(S ([60])),(S ([61])),(S ([60,61])),(S ([62])),(S ([60,62])),(S ([62,61])),(S ([60,61,62]))] 9 (0,0)):=n1.here;have z1:=n1.size;have o1:=n1.owned (base:=w.heap.size) (size:=1) (k:=8) (by omega) (by omega) rfl;refine Ah (v:=(.slice (some ⟨w.heap.size,0,none⟩) 8 8)) rfl rfl ?_;refine A0 (W_ret ?_);refine E9 rfl (v0:=(.slice (some ⟨w.heap.size,0,none⟩) 8 8)) rfl ?_
 have hbel:=(n1.below (Below.refl w.heap.size w) (Below.refl w.heap.size w).size)
 exact⟨RowIs.owned o1,hbel⟩
theorem Q9k (w:World) :
  Calls prog 83 #[] w (Ret fun v w'=>RowIs w' v 7 1 (List.map S Bv)∧Below w.heap.size w w'):=by
 refine D1 func83 rfl ntmps83 ?_;refine W_seq (W_reg ?_);refine Ah (v:=(.slice none 0 0)) rfl rfl (A0 ?_);refine W_seq (W_reg ?_);refine Yo (k:=7) (cs := #[(S []),(S []),(S ([97,110,100])),(S ([111,114])),(S ([105,102])),(S ([119,105,116,104])),(S ([119,105,116,104,111,117,116]))]) (e:=9) rfl (fun _=>by kernel_rfl) (fun w1 n1=>?_);have e1:w1.heap[w.heap.size]? = some (.cells #[(S []),(S []),(S ([97,110,100])),(S ([111,114])),(S ([105,102])),(S ([119,105,116,104])),(S ([119,105,116,104,111,117,116]))] 9 (0,0)):=n1.here;have z1:=n1.size;have o1:=n1.owned (base:=w.heap.size) (size:=1) (k:=7) (by omega) (by omega) rfl;refine Ah (v:=(.slice (some ⟨w.heap.size,0,none⟩) 7 7)) rfl rfl ?_;refine A0 (W_ret ?_);refine E9 rfl (v0:=(.slice (some ⟨w.heap.size,0,none⟩) 7 7)) rfl ?_
 have hbel:=(n1.below (Below.refl w.heap.size w) (Below.refl w.heap.size w).size)
 exact⟨RowIs.owned o1,hbel⟩
def Eb:List UInt8→Int→Bool
 |[],n=>decide (n=0)
 |c::r,n=>if c.toNat < 33∨126 < c.toNat then false else
  (fun n':Int=>if n' < 0 then false else Eb r n') (if c.toNat=40 then n+1 else if c.toNat=41 then n-1 else n)
def G6 (l:List UInt8):Bool:=decide (l=[])||(decide (60 < l.length)||(decide ((Af l 0).toNat=40)||(decide ((Af l 0).toNat=41)||(decide (l=[101,108,115,101])||(decide (0≤Bs signsL l 0)||decide (0≤Bs Bv l 0))))))
theorem Wz {l:List UInt8} (h:G6 l=false):l.length≤60:=by simp[G6] at h;omega
def Bh (l:List UInt8):Bool:=!G6 l&&Eb l 0
def Nm (s:List UInt8):Bool:=decide (s=[97,110,100])||decide (s=[111,114])||decide (s=[105,102])||decide (s=[101,108,115,101])||decide (s=[119,105,116,104])||decide (s=[119,105,116,104,111,117,116])
def Ff (s:List UInt8):Int:=if s=[60] then 1 else if s=[61] then 2 else if s=[60,61] then 3 else if s=[62] then 4 else if s=[60,62] then 5 else if s=[62,61] then 6 else if s=[60,61,62] then 7 else 0
theorem Za:∀(ls:List (List UInt8)) (s:List UInt8) (k:Nat),0≤Bs ls s k↔s∈ls
 |[],s,k=>by simp[Bs]
 |a::r,s,k=>by
  rw[Bs,List.mem_cons,←Za r s (k+1)];by_cases h:s=a
  ·rw[if_pos h];simp[h]
  ·rw[if_neg h];simp[h]
theorem X1c (s:List UInt8):Ff s≠0↔s∈signsL.tail:=by
 unfold Ff signsL
 (repeat' split)<;>simp_all
def Sk (l:List UInt8):Bool:=decide (l.length < 1)||(decide (60 < l.length)||(decide ((Af l 0).toNat=40)||(decide ((Af l 0).toNat=41)||(Nm l||decide (Ff l≠0)))))
theorem Q0s (l:List UInt8):Sk l=G6 l:=by
 rw[Bool.eq_iff_iff];unfold Sk G6 Nm
 have h0:l.length < 1↔l=[]:=by rw[←List.length_eq_zero_iff];omega
 simp only[Bool.or_eq_true,decide_eq_true_eq,Za,X1c,h0,signsL,Bv,List.tail_cons,List.mem_cons,List.not_mem_nil,or_false]
 grind
theorem Sr {l:List UInt8} {k:Nat} {n:Int} (h:k < l.length) (hb:¬((Af l k).toNat < 33∨126 < (Af l k).toNat)) :
  Eb (l.drop k) n=(fun n':Int=>if n' < 0 then false else Eb (l.drop (k+1)) n') (if (Af l k).toNat=40 then n+1 else if (Af l k).toNat=41 then n-1 else n):=by
 rw[Hv h,Eb,if_neg hb]
theorem Jt:Ai prog 148:=Am func148
theorem Ow:Ai prog 149:=Am func149
theorem Y0z:Ai prog 147:=Am func147
theorem I2:Ai prog 151:=Am func151
theorem Y0h:Ai prog 189:=Am func189
theorem Y0x:Ai prog 153:=Am func153
theorem X95:Ai prog 217:=Am func217
theorem Y0i:Ai prog 188:=Am func188
theorem Y0y:Ai prog 152:=Am func152
theorem Xo:Ai prog 150:=Am func150
theorem Y0w:Ai prog 154:=Am func154
theorem Qt:Ai prog 90:=Am func90
theorem Y0g:Ai prog 191:=Am func191
theorem Q5x:Ai prog 192:=Am func192
theorem Q57:Ai prog 160:=Am func160
theorem Y0t:Ai prog 158:=Am func158
theorem Y0s:Ai prog 159:=Am func159
theorem Xs:Ai prog 100:=Am func100
def Ju (c:UInt8):Bool:=decide (48≤c.toNat)&&decide (c.toNat≤57)
def X54 (c:UInt8):Bool:=(decide (97≤c.toNat)&&decide (c.toNat≤122))||(decide (65≤c.toNat)&&decide (c.toNat≤90))
def midL:List UInt8:=[46,95,43,126,94,45,58]
def F8 (c:UInt8):Bool:=Ju c||(X54 c||midL.contains c)
theorem Q35 (l:List UInt8) (c:UInt8):decide (0≤Lib.indexByte l c)=l.contains c:=by
 induction l with
 |nil=>rfl
 |cons b l ih =>
  have hge:=Lib.indexByte_ge l c;rw[List.contains_cons,←ih,Bool.eq_iff_iff];rw[show Lib.indexByte (b::l) c=if b == c then 0 else if Lib.indexByte l c == -1 then -1 else Lib.indexByte l c+1 from rfl];by_cases h:b=c
  ·subst h;simp
  ·have h':¬c=b:=fun e=>h e.symm;by_cases hm:Lib.indexByte l c = -1
   ·simp[h,h',hm]
   ·simp[h,h',hm];omega
theorem Y6s (l:List UInt8) (c:UInt8) (w:World):Calls prog 150 #[S l,.int .u8 (c.toNat:Int)] w (Ret fun v w'=>v = .int .i64 (Lib.indexByte l c)∧w=w'):=by
 have h:=Pr (Tryz.strings_IndexByte ⟨l.toArray⟩ (c.toNat:Int) w)
 have e:((c.toNat:Int)).toNat.toUInt8=c:=by simp
 rw[e] at h;exact h
theorem Y6v (l:List UInt8) (c:UInt8) (w:World):Calls prog 217 #[S l,S [c]] w (Ret fun v w'=>v = .int .i64 (Lib.indexByte l c)∧w=w'):=Pr (Tryz.stringslite_Index_one ⟨l.toArray⟩ c w)
theorem Y64 (l:List UInt8) (c:UInt8) (w:World):Calls prog 154 #[S l,S [c]] w (Ret fun v w'=>v = .bool (l.contains c)∧w=w'):=by
 have h:=Pr (Tryz.strings_Contains_one ⟨l.toArray⟩ c w);rw[show(decide (0≤Lib.indexByte (⟨l.toArray⟩:ByteArray).data.toList c))=l.contains c from Q35 l c] at h;exact h
def Q3 (p:UInt8→Bool) (l:List UInt8):Nat:=(l.takeWhile p).length
theorem Y2f {p:UInt8→Bool} {l:List UInt8} (ha:l.all p=true):Q3 p l=l.length:=by
 unfold Q3
 induction l with
 |nil=>rfl
 |cons a r ih =>
  rw[List.all_cons,Bool.and_eq_true] at ha;rw[List.takeWhile_cons,ha.1];simp[ih ha.2]
theorem Y2e (p:UInt8→Bool) (l:List UInt8):decide ((Q3 p l:Int)=(l.length:Int))=l.all p:=by
 rw[Bool.eq_iff_iff,decide_eq_true_eq];constructor
 ·intro h;unfold Q3 at h;have:=(List.takeWhile_prefix p (l:=l)).eq_of_length (by omega);rw[←this];simp
 ·intro h;rw[Y2f h]
def B7 (l:List UInt8) (c:UInt8):Nat→Int
 |0 => -1
 |k+1=>if Af l k=c then (k:Int) else B7 l c k
theorem Qd {l:List UInt8} {c:UInt8} {k:Nat} (h:0 < k):B7 l c k=if Af l (k-1)=c then ((k-1:Nat):Int) else B7 l c (k-1):=by
 obtain⟨j,rfl⟩:∃j,k=j+1:=⟨k-1,by omega⟩
 rfl
theorem Q3n (l:List UInt8) (c:UInt8):∀k,B7 l c k = -1∨∃j:Nat,B7 l c k=j∧j < k
 |0 => .inl rfl
 |k+1=>by
  unfold B7;split
  ·exact .inr ⟨k,rfl,by omega⟩
  ·rcases Q3n l c k with h|⟨j,h,hj⟩
   ·exact .inl h
   ·exact .inr ⟨j,h,by omega⟩
theorem X57 (l:List UInt8) (c:UInt8) (w:World) (hl:l.length≤9223372036854775807) :
  Calls prog 189 #[(S l),(.int .u8 (((c).toNat:Int)))] w (Ret fun v w'=>v = .int .i64 (B7 l c l.length)∧w=w'):=by
 refine D1 func189 rfl ntmps189 (W_seq ?_);refine W_reg (Ah (v:=(.int .i64 0)) rfl rfl ?_);refine A0 (W_seq ?_);refine W_seq (W_reg ?_);refine Ah (v:=(S l)) rfl rfl (J1 (l:=l) rfl rfl underlying9 ?_);refine Ym (b:=1) (v:=(l.length:Int)-1) rfl rfl rfl (by simp only[kLo,kHi];omega) (Ah (v:=(.int .i64 ((l.length:Int)-1))) rfl rfl ?_);refine A0 (Gw ?_);refine M9 (fun g σ' w'=>∃(k:Nat),w=w'∧σ' 0=(S l)∧σ' 1=(.int .u8 (((c).toNat:Int)))∧σ' 5=(.int .i64 ((k:Int)-1))∧k≤l.length∧B7 l c l.length=B7 l c k∧g=k+1) ?_ ?_
 ·refine⟨_,l.length,rfl,rfl,rfl,rfl,?_,?_,rfl⟩
  all_goals first|rfl|omega|simp
 ·rintro g σl1 _ ⟨k,rfl,l1_0,l1_1,l1_5,f1_1,f1_2,rfl⟩;refine C5 (d:=0) l1_0 (C5 (d:=1) l1_1 (C5 (d:=5) l1_5 (?_)));refine W_seq (W_seq ?_);refine W_reg (Ah (v:=(.int .i64 ((k:Int)-1))) rfl rfl ?_);refine Ah (v:=(.bool (decide (0≤((k:Int)-1))))) rfl rfl (A0 ?_);refine Fu (p:=0≤((k:Int)-1)) rfl (fun c1=>?_) (fun c1=>?_)
  ·refine W_skip (W_seq ?_);refine Gw (W_seq ?_);refine W_reg (Ah (v:=(S l)) rfl rfl ?_);refine Ah (v:=(.int .i64 ((k:Int)-1))) rfl rfl (Q8j (l:=l) (j:=(k-1)) rfl rfl rfl underlying9 (by first|rfl|omega) (by first|omega|(simp;done)|(simp;omega)) ?_);refine Ah (v:=(.int .u8 (((c).toNat:Int)))) rfl rfl ?_;refine Ah (v:=(.bool (decide (((Af l (k-1)).toNat:Int)=((c).toNat:Int))))) rfl rfl (A0 ?_);refine Fu (p:=((Af l (k-1)).toNat:Int)=((c).toNat:Int)) rfl (fun c2=>?_) (fun c2=>?_)
   ·refine W_seq (W_reg ?_);refine Ah (v:=(.int .i64 ((k:Int)-1))) rfl rfl (Ah (v:=(.int .i64 ((k:Int)-1))) rfl rfl ?_);refine A0 (W_ret ?_);refine E9 rfl (v0:=(.int .i64 ((k:Int)-1))) rfl ?_;exact⟨by rw[f1_2,Qd (by omega),if_pos (UInt8.toNat_inj.1 (by omega))];congr 1;omega,rfl⟩
   ·refine W_skip (W_reg ?_);refine Ah (v:=(.int .i64 ((k:Int)-1))) rfl rfl (Ym (v:=((k-1:Nat):Int)-1) (hv:=by omega) rfl rfl rfl (by simp only[kLo,kHi];omega) ?_);refine Ah (v:=(.int .i64 (((k-1:Nat):Int)-1))) rfl rfl (A0 ?_);refine⟨_,?_,(k-1),rfl,rfl,rfl,rfl,?_,?_,rfl⟩
    ·omega
    ·omega
    ·rw[f1_2,Qd (by omega),if_neg (fun e=>c2 (by rw[e]))]
  ·refine Na (W_seq ?_);refine W_reg (Ah (v:=(.int .i64 (-1))) rfl rfl ?_);refine A0 (W_ret ?_);refine E9 rfl (v0:=(.int .i64 (-1))) rfl ?_;exact⟨by rw[f1_2,show k=0 by omega];rfl,rfl⟩
theorem Y6q (l:List UInt8) (c:UInt8) (w:World) (hl:l.length≤9223372036854775807) :
  Calls prog 153 #[(S l),(.int .u8 (((c).toNat:Int)))] w (Ret fun v w'=>v = .int .i64 (B7 l c l.length)∧w=w'):=by
 refine D1 func153 rfl ntmps153 (W_seq ?_);refine W_reg (Ah (v:=(.int .i64 0)) rfl rfl ?_);refine A0 (W_seq ?_);refine W_reg (Ah (v:=(S l)) rfl rfl ?_);refine Ah (v:=(.int .u8 (((c).toNat:Int)))) rfl rfl (Cv rfl (by exact Y0h) (X57 l c _ hl) ?_);rintro _ _ ⟨rfl,rfl⟩;refine Ah (v:=(.int .i64 (B7 l c l.length))) rfl rfl ?_;refine A0 (W_ret ?_);refine E9 rfl (v0:=(.int .i64 (B7 l c l.length))) rfl ?_;exact⟨rfl,rfl⟩
def Jv (l:List UInt8) (c:UInt8):Value:=if 0≤Lib.indexByte l c then .tuple #[S (l.take (Lib.indexByte l c).toNat),S (l.drop ((Lib.indexByte l c).toNat+1)),.bool true] else .tuple #[S l,S [],.bool false]
theorem Q34 (l:List UInt8) (c:UInt8):Lib.indexByte l c < l.length:=by
 induction l with
 |nil=>simp[Lib.indexByte]
 |cons b l ih=>unfold Lib.indexByte;simp only[List.length_cons];(repeat' split)<;>omega
theorem Q38 (l:List UInt8) (c:UInt8):Lib.indexByte l c = -1∨∃j:Nat,Lib.indexByte l c=j∧j < l.length:=by
 have h1:=Lib.indexByte_ge l c;have h2:=Q34 l c;by_cases h:Lib.indexByte l c = -1
 ·exact .inl h
 ·exact .inr ⟨(Lib.indexByte l c).toNat,by omega,by omega⟩
theorem Xy {l:List UInt8} {c:UInt8} (h:Lib.indexByte l c = -1):Jv l c = .tuple #[S l,S [],.bool false]:=by unfold Jv;rw[h,if_neg (by omega)]
theorem Xx {l:List UInt8} {c:UInt8} {j:Nat} (h:Lib.indexByte l c=j):Jv l c = .tuple #[S (l.take j),S (l.drop (j+1)),.bool true]:=by unfold Jv;rw[h,if_pos (by omega),Int.toNat_natCast]
theorem Y18 (l:List UInt8) (c:UInt8) (w:World) (hl:l.length≤9223372036854775807) :
  Calls prog 188 #[(S l),(S ([c]))] w (Ret fun v w'=>v=Jv l c∧Below w.heap.size w w'):=by
 refine D1 func188 rfl ntmps188 ?_;refine W_seq (W_reg ?_);refine Ah (v:=(S [])) rfl rfl (Ah (v:=(S [])) rfl rfl ?_);refine Ah (v:=(.bool false)) rfl rfl (A0 ?_);refine W_seq (W_seq ?_);refine W_reg (Ah (v:=(S l)) rfl rfl ?_);refine Ah (v:=(S ([c]))) rfl rfl (Cv rfl (by exact X95) (Y6v l c _) ?_);rintro _ _ ⟨rfl,rfl⟩;rcases Q38 l c with hz|⟨j,hz,hj⟩
 ·refine Ip 10 (v:=.int .i64 (Lib.indexByte l c)) rfl (by rw[hz]:_=Value.int .i64 (-1)) (Ah (v:=(.int .i64 (-1))) rfl rfl ?_);refine A0 (W_seq ?_);refine W_reg (Ah (v:=(.int .i64 (-1))) rfl rfl ?_);refine Ah (v:=(.bool false)) rfl rfl (A0 ?_);refine Kz rfl (W_skip ?_);refine W_seq (W_reg ?_);refine Ah (v:=(S l)) rfl rfl (Ah (v:=(S l)) rfl rfl ?_);refine Ah (v:=(S [])) rfl rfl (Ah (v:=(.bool false)) rfl rfl ?_);refine A0 (W_ret ?_);refine Uh rfl (v0:=(S l)) (v1:=(S [])) (v2:=(.bool false)) rfl rfl rfl ?_
  have hbel:=(Below.refl w.heap.size w)
  exact⟨(Xy hz).symm,hbel⟩
 ·refine Ip 10 (v:=.int .i64 (Lib.indexByte l c)) rfl (by rw[hz]:_=Value.int .i64 (j:Int)) (Ah (v:=(.int .i64 ((j:Int)))) rfl rfl ?_);refine A0 (W_seq ?_);refine W_reg (Ah (v:=(.int .i64 ((j:Int)))) rfl rfl ?_);refine Ah (v:=(.bool (decide (0≤(j:Int))))) rfl rfl (A0 ?_);refine Fu (p:=0≤(j:Int)) rfl (fun c1=>?_) (fun c1=>?_)
  ·refine W_seq ?_;refine Yj (by kernel_rfl) (by kernel_rfl) (Fl (v:=(S l)) rfl rfl ?_);refine Fl (v:=(.int .i64 ((j:Int)))) rfl rfl (J0 rfl (fun _ _=>Q87 (l:=l) (j:=j) rfl rfl underlying9 (by first|rfl|omega) (by first|omega|(simp;done)|(simp;omega))) ?_);refine Fl (v:=(S l)) rfl rfl (Fl (v:=(.int .i64 ((j:Int)))) rfl rfl ?_);refine Fl (v:=(S ([c]))) rfl rfl (J0 rfl (fun _ _=>Q88 (l:=[c]) rfl underlying9) ?_);refine J0 rfl (fun _ _=>Uv (b:=1) (v:=(j:Int)+1) rfl rfl (by simp only[kLo,kHi];omega)) (J0 rfl (fun _ _=>Q86 (l:=l) (i:=j+1) rfl rfl underlying9 (by first|rfl|omega) (by first|omega|(simp;done)|(simp;omega))) ?_);refine Fl (v:=(S ((l.take j)))) rfl rfl ?_;refine Fl (v:=(S ((l.drop (j+1))))) rfl rfl (Fl (v:=(.bool true)) rfl rfl ?_);refine Yl (fun w1 d1=>?_);refine W_ret ?_;refine Uh rfl (v0:=(S ((l.take j)))) (v1:=(S ((l.drop (j+1))))) (v2:=(.bool true)) rfl rfl rfl ?_
   have hbel:=(d1.below (Below.refl w.heap.size w))
   exact⟨(Xx hz).symm,hbel⟩
  ·omega
theorem Y62 (l:List UInt8) (c:UInt8) (w:World) (hl:l.length≤9223372036854775807) :
  Calls prog 152 #[(S l),(S ([c]))] w (Ret fun v w'=>v=Jv l c∧Below w.heap.size w w'):=by
 refine D1 func152 rfl ntmps152 (W_seq ?_);refine W_reg (Ah (v:=(S [])) rfl rfl ?_);refine Ah (v:=(S [])) rfl rfl (Ah (v:=(.bool false)) rfl rfl ?_);refine A0 (W_seq ?_);refine W_reg (Ah (v:=(S l)) rfl rfl ?_);refine Ah (v:=(S ([c]))) rfl rfl (Cv rfl (by exact Y0i) (Y18 l c _ hl) ?_);rintro _ w1 ⟨rfl,h1⟩;have z_w1:=h1.size;rcases Q38 l c with hz|⟨j,hz,hj⟩
 ·refine Ip 9 (v:=Jv l c) rfl (Xy hz) ?_;refine Ah (v:=(S l)) rfl rfl (Ah (v:=(S [])) rfl rfl ?_);refine Ah (v:=(.bool false)) rfl rfl (Ah (v:=(S l)) rfl rfl ?_);refine Ah (v:=(S [])) rfl rfl (Ah (v:=(.bool false)) rfl rfl ?_);refine A0 (W_ret ?_);refine Uh rfl (v0:=(S l)) (v1:=(S [])) (v2:=(.bool false)) rfl rfl rfl ?_
  have hbel:=(Dg (Below.refl w.heap.size w) h1)
  exact⟨(Xy hz).symm,hbel⟩
 ·refine Ip 9 (v:=Jv l c) rfl (Xx hz) ?_;refine Ah (v:=(S ((l.take j)))) rfl rfl (Ah (v:=(S ((l.drop (j+1))))) rfl rfl ?_);refine Ah (v:=(.bool true)) rfl rfl (Ah (v:=(S ((l.take j)))) rfl rfl ?_);refine Ah (v:=(S ((l.drop (j+1))))) rfl rfl (Ah (v:=(.bool true)) rfl rfl ?_);refine A0 (W_ret ?_);refine Uh rfl (v0:=(S ((l.take j)))) (v1:=(S ((l.drop (j+1))))) (v2:=(.bool true)) rfl rfl rfl ?_
  have hbel:=(Dg (Below.refl w.heap.size w) h1)
  exact⟨(Xx hz).symm,hbel⟩
def G9 (l:List UInt8):Bool:=l.all Ju&&(decide (1≤l.length)&&decide (l.length≤9))
def Ho (l:List UInt8):Bool:=l.all F8&&(decide (1≤l.length)&&decide (l.length≤60))
def My (r:List UInt8):Bool :=
 (if 0≤B7 r 45 r.length then !decide (r.drop ((B7 r 45 r.length).toNat+1)=[])&&!decide (r.take (B7 r 45 r.length).toNat=[]) else !decide (r=[]))&&!r.contains 58
def Km (l:List UInt8):Bool:=Ho l&&(if 0≤Lib.indexByte l 58 then G9 (l.take (Lib.indexByte l 58).toNat)&&My (l.drop ((Lib.indexByte l 58).toNat+1)) else My l)
def Ch (l:List UInt8):Int:=if Km l then 0 else 30
def Qr (l:List UInt8):List UInt8 × List UInt8 × List UInt8 :=
 let r:=if 0≤Lib.indexByte l 58 then l.drop ((Lib.indexByte l 58).toNat+1) else l
 (if 0≤Lib.indexByte l 58 then l.take (Lib.indexByte l 58).toNat else [],
  if 0≤B7 r 45 r.length then r.take (B7 r 45 r.length).toNat else r,
  if 0≤B7 r 45 r.length then r.drop ((B7 r 45 r.length).toNat+1) else [])
def C9 (l:List UInt8):List UInt8 × List UInt8 × List UInt8:=if Ch l=0 then Qr l else ([],[],[])
theorem Ln {l:List UInt8} (h:(30:Int)=Ch l):C9 l=([],[],[]):=by unfold C9;rw[if_neg (by omega)]
theorem Q41 {l:List UInt8} (h:(0:Int)=Ch l):C9 l=Qr l:=by unfold C9;rw[if_pos h.symm]
theorem Q43 {l:List UInt8} (h:Ho l=false):Ch l=30:=by simp[Ch,Km,h]
theorem X8t {l:List UInt8} {j:Nat} (hz:Lib.indexByte l 58=j) (h:G9 (l.take j)=false):Ch l=30:=by simp[Ch,Km,hz,h]
theorem Uc (p:UInt8→Bool) (l:List UInt8):((Q3 p l:Int)=(l.length:Int))↔l.all p=true:=by rw[←Y2e,decide_eq_true_eq]
theorem Q36 (b:UInt8) (l:List UInt8) (c:UInt8):Lib.indexByte (b::l) c=if b=c then 0 else if Lib.indexByte l c = -1 then -1 else Lib.indexByte l c+1:=by
 rw[show Lib.indexByte (b::l) c=if b == c then 0 else if Lib.indexByte l c == -1 then -1 else Lib.indexByte l c+1 from rfl];simp
def J5 (l:List UInt8) (c:UInt8) (i:Nat):Prop:=Lib.indexByte l c=if Lib.indexByte (l.drop i) c = -1 then -1 else Lib.indexByte (l.drop i) c+(i:Int)
theorem X69 (l:List UInt8) (c:UInt8):J5 l c 0:=by unfold J5;rw[List.drop_zero];split<;>omega
theorem Q37 {l:List UInt8} {c:UInt8} {i:Nat} (h:J5 l c i) (hi:i < l.length) (hc:Af l i=c):Lib.indexByte l c=(i:Int):=by
 unfold J5 at h;rw[Hv hi,Q36,if_pos hc,if_neg (by omega)] at h;omega
theorem X7a {l:List UInt8} {c:UInt8} {i:Nat} (h:J5 l c i) (hi:l.length≤i):Lib.indexByte l c = -1:=by
 unfold J5 at h;rw[List.drop_of_length_le hi] at h;simpa [Lib.indexByte] using h
theorem X68 {l:List UInt8} {c:UInt8} {i:Nat} (h:J5 l c i) (hi:i < l.length) (hc:¬Af l i=c):J5 l c (i+1):=by
 have hge:=Lib.indexByte_ge (l.drop (i+1)) c;unfold J5 at h ⊢;rw[Hv hi,Q36,if_neg hc] at h;rw[h];by_cases hm:Lib.indexByte (l.drop (i+1)) c = -1
 ·simp[hm]
 ·rw[if_neg hm,if_neg (by omega),if_neg hm];omega
inductive DepT where
 |mk (kind:Int) (name:List UInt8) (op:Int) (evr:List UInt8) (args:List DepT)
instance:Inhabited DepT:=⟨.mk 0 [] 0 [] []⟩
mutual
def DepC (w:World):DepT→List Value→Prop
 |.mk k nm op ev args,cs=>∃(sv:Value) (css:List (List Value)),cs=[.int .i64 k,S nm,.int .i64 op,S ev,sv]∧RowIs w sv args.length 5 css.flatten∧ArgsC w args css
def ArgsC (w:World):List DepT→List (List Value)→Prop
 |[],css=>css=[]
 |d::r,css=>∃(c:List Value) (cr:List (List Value)),css=c::cr∧DepC w d c∧ArgsC w r cr
end
mutual
theorem DepC.ext {w w':World} (hb:Below w.heap.size w w'):∀(d:DepT) (cs:List Value),DepC w d cs→DepC w' d cs
 |.mk k nm op ev args,cs,h=>by
  unfold DepC at h ⊢;obtain⟨sv,css,h1,h2,h3⟩:=h;exact⟨sv,css,h1,h2.ext hb,ArgsC.ext hb args css h3⟩
theorem ArgsC.ext {w w':World} (hb:Below w.heap.size w w'):∀(l:List DepT) (css:List (List Value)),ArgsC w l css→ArgsC w' l css
 |[],css,h=>by unfold ArgsC at h ⊢;exact h
 |d::r,css,h=>by
  unfold ArgsC at h ⊢;obtain⟨c,cr,h1,h2,h3⟩:=h;exact⟨c,cr,h1,DepC.ext hb d c h2,ArgsC.ext hb r cr h3⟩
end
theorem DepC.len {w:World} {d:DepT} {cs:List Value} (h:DepC w d cs):cs.length=5:=by
 cases d;unfold DepC at h;obtain⟨sv,css,h1,_⟩:=h;rw[h1];rfl
theorem ArgsC.len {w:World}:∀{l:List DepT} {css:List (List Value)},ArgsC w l css→css.length=l.length
 |[],css,h=>by unfold ArgsC at h;rw[h];rfl
 |d::r,css,h=>by
  unfold ArgsC at h;obtain⟨c,cr,h1,_,h3⟩:=h;rw[h1,List.length_cons,List.length_cons,ArgsC.len h3]
theorem ArgsC.at {w:World}:∀{l:List DepT} {css:List (List Value)} (_:ArgsC w l css) (i:Nat),i < l.length→DepC w (nth l i) (nth css i)
 |[],_,_,_,hi=>by simp at hi
 |d::r,css,h,i,hi=>by
  unfold ArgsC at h;obtain⟨c,cr,rfl,h2,h3⟩:=h
  cases i with
  |zero=>exact h2
  |succ i=>exact ArgsC.at h3 i (by simpa using hi)
theorem ArgsC.each {w:World}:∀{l:List DepT} {css:List (List Value)} (_:ArgsC w l css),∀c∈css,c.length=5
 |[],css,h=>by unfold ArgsC at h;rw[h];simp
 |d::r,css,h=>by
  unfold ArgsC at h;obtain⟨c,cr,rfl,h2,h3⟩:=h;intro x hx;rcases List.mem_cons.1 hx with rfl|hx
  ·exact h2.len
  ·exact ArgsC.each h3 x hx
def DepIs (w:World) (d:DepT) (v:Value):Prop:=∃cs,v = .agg cs.toArray∧DepC w d cs
theorem DepIs.ext {w w':World} {d:DepT} {v:Value} (h:DepIs w d v) (hb:Below w.heap.size w w'):DepIs w' d v:=by
 obtain⟨cs,h1,h2⟩:=h;exact⟨cs,h1,h2.ext hb d cs⟩
theorem Q5v:Ai prog 194:=Am func194
mutual
def DepT.size:DepT→Nat
 |.mk _ nm _ ev args=>argsSize args+1+nm.length+ev.length
def argsSize:List DepT→Nat
 |[]=>0
 |d::r=>d.size+argsSize r
end
mutual
def El:DepT→Nat
 |.mk k _ _ _ args=>if k=1 then 1 else argsParts args
def argsParts:List DepT→Nat
 |[]=>0
 |d::r=>El d+argsParts r
end
mutual
theorem Q1d:∀d:DepT,El d≤d.size
 |.mk k _ _ _ args=>by unfold El DepT.size;have:=argsParts_le args;split<;>omega
theorem argsParts_le:∀l:List DepT,argsParts l≤argsSize l
 |[]=>by simp[argsParts,argsSize]
 |d::r=>by unfold argsParts argsSize;have:=Q1d d;have:=argsParts_le r;omega
end
theorem Y3i {l:List DepT} {i:Nat} (h:i < l.length):argsParts (l.take (i+1))=argsParts (l.take i)+El (nth l i):=by
 induction l generalizing i with
 |nil=>simp at h
 |cons d r ih =>
  cases i with
  |zero=>simp[argsParts,nth]
  |succ i =>
   have:=ih (i:=i) (by simpa using h);simp only[List.take_succ_cons,argsParts,this];have hn:nth (d::r) (i+1)=nth r i:=rfl;rw[hn];omega
theorem Jz {l:List DepT} {i:Nat} (h:i < l.length):(nth l i).size≤argsSize l:=by
 induction l generalizing i with
 |nil=>simp at h
 |cons d r ih =>
  unfold argsSize
  cases i with
  |zero=>show d.size≤_;omega
  |succ i=>have:=ih (i:=i) (by simpa using h);show(nth r i).size≤_;omega
theorem Y3h (l:List DepT):l.length≤argsSize l:=by
 induction l with
 |nil=>simp
 |cons d r ih=>unfold argsSize;cases d;unfold DepT.size;simp only[List.length_cons];omega
theorem Y1w {C:DepT→Prop} (h:∀k nm op ev args,(∀i,i < args.length→C (nth args i))→C (.mk k nm op ev args)) (d:DepT):C d:=by
 have key:∀(n:Nat) (d:DepT),d.size≤n→C d:=by
  intro n
  induction n with
  |zero=>intro d hd;cases d;unfold DepT.size at hd;omega
  |succ n ih =>
   intro d hd
   cases d with
   |mk k nm op ev args =>
    unfold DepT.size at hd;exact h k nm op ev args fun i hi=>ih _ (by have:=Jz hi;omega)
 exact key _ d (Nat.le_refl _)
def WH (P:Program) (n:Nat) (ops:Array Oper) (Q:(Nat→Value)→World→Prop) (B:World) (fuel:Nat) (listed:Array Bool) (σ:Nat→Value) (w:World):Prop :=
 wpAnyH P .any ops (fun e a w=>e = .normal∧∃σ,a=mk n σ∧Q σ w) (fun w'=>Below B.heap.size B w') fuel listed (mk n σ) w
section
variable {P : Program} {n : Nat} {σ : Nat → Value} {w : World}
variable {ops : Array Oper} {Q : (Nat → Value) → World → Prop} {fuel : Nat} {listed : Array Bool} {B : World}
variable {dst : Option Tmp} {ty : TypeId} {ps : String} {af : Array Edge} {g : Option (Nat × Bool)}
end
theorem Qj {w:World} {a b:Nat} {c c':Array Value} {e e':TypeId} {f f':Nat × Nat} (h:w.heap[a]? = some (.cells c e f)) (k:w.heap[b]? = some (.cells c' e' f')) (hne:e≠e'):a≠b:=by
 rintro rfl;rw[h] at k;cases k;exact hne rfl
theorem X4b {w:World} {v:Value} {n sz:Nat} {xs:List Value} (h:RowIs w v n sz xs):v.oneCell'=true:=by
 rcases h.2 with⟨_,a,c,rfl⟩|⟨b,o,c,rfl,_⟩<;>rfl
theorem W2 (w:World) (r:Option Nat):w.grownBy w r:=⟨rfl,rfl,rfl,Nat.le_refl _,fun _ _ _=>rfl⟩
theorem Q4j {w w1 w2:World} {r:Option Nat} {b:Nat} {o:Obj} (g:w.grownBy w1 r) (u:Upd w1 w2 b o) (h:w.heap.size≤b∨r=some b):w.grownBy w2 r :=
 ⟨u.os.trans g.os,u.tape.trans g.tape,u.output.trans g.output,by rw[u.size];exact g.size,fun k hk hr=>by
  rw [u.block k (by rcases h with h | rfl; · omega
                    · exact fun e=>hr (by rw[e]))]
  exact g.block k hk hr⟩
attribute [irreducible] WH
mutual
def Vt:DepT→DepT→Bool
 |.mk k nm op ev args,.mk k' nm' op' ev' args'=>decide (k=k'∧nm=nm'∧op=op'∧ev=ev')&&sameL args args'
def sameL:List DepT→List DepT→Bool
 |[],[]=>true
 |a::r,b::s=>Vt a b&&sameL r s
 |_,_=>false
end
mutual
theorem X15:∀(a b:DepT),Vt a b=true↔a=b
 |.mk k nm op ev args,.mk k' nm' op' ev' args'=>by
  unfold Vt;simp only[Bool.and_eq_true,decide_eq_true_eq,sameL_eq args args',DepT.mk.injEq];constructor
  ·rintro⟨⟨a,b,c,d⟩,e⟩;exact⟨a,b,c,d,e⟩
  ·rintro⟨a,b,c,d,e⟩;exact⟨⟨a,b,c,d⟩,e⟩
theorem sameL_eq:∀(l m:List DepT),sameL l m=true↔l=m
 |[],[]=>by simp[sameL]
 |[],_::_=>by simp[sameL]
 |_::_,[]=>by simp[sameL]
 |a::r,b::s=>by simp only[sameL,Bool.and_eq_true,X15 a b,sameL_eq r s,List.cons.injEq]
end
section
theorem Q5w:Ai prog 193:=Am func193
theorem Q56:Ai prog 162:=Am func162
def DepT.kind:DepT→Int
 |.mk k _ _ _ _=>k
theorem ArgsC.kind {w:World} {args:List DepT} {css:List (List Value)} (h:ArgsC w args css) {i:Nat} (hi:i < args.length):(nth css i)[0]? = some (.int .i64 (nth args i).kind):=by
 have h1:=ArgsC.at h i hi
 cases hd:nth args i with
 |mk k nm op ev bs =>
  rw[hd] at h1;unfold DepC at h1;obtain⟨sv,cs,h2,_⟩:=h1;rw[h2];rfl
def I0 (nm:List UInt8) (op:Int) (ev:List UInt8) (n:Nat):Bool:=Bh nm&&(decide (0≤op)&&(decide (op≤7)&&(decide (n=0)&&(if op=0 then decide (ev=[]) else decide (Ch ev=0)))))
def Hr (k:Int) (nm:List UInt8) (op:Int) (ev:List UInt8) (n:Nat):Bool:=decide ((k < 2∨6 < k∨nm≠[]∨op≠0∨ev≠[]∨n < 2)∨((k=4∧3 < n)∨(k=6∧2 < n)))
def Kj (k m:Int):Bool:=!decide (5≤k∧m≠1∧m≠5∧m≠6)
mutual
def Cu:DepT→Bool
 |.mk k nm op ev args=>if k=1 then I0 nm op ev args.length else !Hr k nm op ev args.length&&argsForm k args
def argsForm (k:Int):List DepT→Bool
 |[]=>true
 |d::r=>Kj k d.kind&&(Cu d&&argsForm k r)
end
theorem Yd {k:Int} {l:List DepT} {i:Nat} (h:i < l.length):argsForm k (l.drop i)=(Kj k (nth l i).kind&&(Cu (nth l i)&&argsForm k (l.drop (i+1)))):=by rw[Xt h,argsForm]
section
variable {k op : Int} {nm ev : List UInt8} {n : Nat}
theorem Q4p (h:¬(Bh nm=true∧0≤op∧op≤7∧n=0)):I0 nm op ev n=false:=by
 unfold I0
 cases hn:Bh nm with
 |false=>rfl
 |true =>
  by_cases h1:0≤op
  ·by_cases h2:op≤7
   ·have h3:n≠0:=fun h3=>h ⟨hn,h1,h2,h3⟩;simp[h1,h2,h3]
   ·simp[h1,h2]
  ·simp[h1]
theorem X73 (h:Bh nm=true∧0≤op∧op≤7∧n=0) (h0:op=0):I0 nm op ev n=decide (ev=[]):=by
 unfold I0;simp[h.1,h0,h.2.2.2]
theorem X74 (h:Bh nm=true∧0≤op∧op≤7∧n=0) (h0:¬op=0):I0 nm op ev n=decide (Ch ev=0):=by
 unfold I0;simp[h.1,h.2.1,h.2.2.1,h0,h.2.2.2]
theorem X8j (h:k < 2∨6 < k∨nm≠[]∨op≠0∨ev≠[]∨n < 2):Hr k nm op ev n=true:=by unfold Hr;exact decide_eq_true (.inl h)
theorem X8g (h:(k=4∧3 < n)∨(k=6∧2 < n)):Hr k nm op ev n=true:=by unfold Hr;exact decide_eq_true (.inr h)
theorem X8f (h:¬(k < 2∨6 < k∨nm≠[]∨op≠0∨ev≠[]∨n < 2)) (h':¬((k=4∧3 < n)∨(k=6∧2 < n))):Hr k nm op ev n=false:=by
 unfold Hr;exact decide_eq_false fun hc=>hc.elim h h'
theorem X59 {m:Int} (h:5≤k∧m≠1∧m≠5∧m≠6):Kj k m=false:=by unfold Kj;rw[decide_eq_true h];rfl
theorem Q3o {m:Int} (h:¬(5≤k∧m≠1∧m≠5∧m≠6)):Kj k m=true:=by unfold Kj;rw[decide_eq_false h];rfl
end
def Cg (d:DepT):Int:=if Cu d then (if 16 < El d then 51 else 0) else 50
end
theorem Q55:Ai prog 169:=Am func169
theorem Y0e:Ai prog 198:=Am func198
theorem Y0f:Ai prog 197:=Am func197
theorem X93:Ai prog 220:=Am func220
theorem Q53:Ai prog 170:=Am func170
theorem Q0:Ai prog 114:=Am func114
theorem Y0o:Ai prog 171:=Am func171
def Om (k:Int) (d:DepT):Bool:=!(Kj k d.kind&&Cu d)
def Fs (k:Int):Int:=if k=4 then 3 else if k=6 then 2 else 0
theorem X4z (k:Int):((Bj (Es (Es ([]:List (Int × Int)) 4 3) 6 2) k).map I64).getD (.int .i64 0) = .int .i64 (Fs k):=by
 have e:Es (Es ([]:List (Int × Int)) 4 3) 6 2=[(4,3),(6,2)]:=rfl;rw[e];unfold Bj Fs;by_cases h1:k=4
 ·subst h1;rfl
 ·by_cases h2:k=6
  ·subst h2;rfl
  ·simp[h1,h2]
theorem Q4n {k:Int} {nm ev:List UInt8} {op:Int} {n:Nat}:Hr k nm op ev n=decide ((k < 2∨6 < k∨nm≠[]∨op≠0∨ev≠[]∨n < 2)∨(0 < Fs k∧Fs k < (n:Int))):=by
 unfold Hr Fs;rw[decide_eq_decide];refine or_congr Iff.rfl ?_;by_cases h1:k=4
 ·subst h1;simp<;>omega
 ·by_cases h2:k=6
  ·subst h2;simp<;>omega
  ·simp[h1,h2]
theorem Q4m {nm ev:List UInt8} {op:Int} {n:Nat}:I0 nm op ev n=decide (Bh nm=true∧n=0∧(op=0∧ev=[]∨(1≤op∧op≤7)∧Ch ev=0)):=by
 rw[Bool.eq_iff_iff,decide_eq_true_eq];unfold I0;by_cases h:op=0
 ·subst h;simp
 ·simp only[Bool.and_eq_true,decide_eq_true_eq,if_neg h];constructor
  ·rintro⟨a,b,c,d,e⟩;exact⟨a,d,.inr ⟨⟨by omega,c⟩,e⟩⟩
  ·rintro⟨a,d,(⟨b,_⟩|⟨⟨b,c⟩,e⟩)⟩
   ·exact absurd b h
   ·exact⟨a,by omega,c,d,e⟩
theorem Q7t {k:Int}:∀{l:List DepT},(l.any (Om k)) = !argsForm k l
 |[]=>rfl
 |d::r=>by
  rw[List.any_cons,Q7t,argsForm];unfold Om;cases Kj k d.kind<;>cases Cu d<;>simp
mutual
def F7:DepT→Nat
 |.mk k _ _ _ args=>(if k=1 then 1 else 0)+argsNames args
def argsNames:List DepT→Nat
 |[]=>0
 |d::r=>F7 d+argsNames r
end
mutual
theorem X4s:∀d:DepT,F7 d≤d.size
 |.mk k nm _ ev args=>by unfold F7 DepT.size;have:=argsNames_le args;split<;>omega
theorem argsNames_le:∀l:List DepT,argsNames l≤argsSize l
 |[]=>by simp[argsNames,argsSize]
 |d::r=>by unfold argsNames argsSize;have:=X4s d;have:=argsNames_le r;omega
end
theorem Y3j {l:List DepT} {i:Nat} (h:i < l.length):argsNames (l.take (i+1))=argsNames (l.take i)+F7 (nth l i):=by
 induction l generalizing i with
 |nil=>simp at h
 |cons d r ih =>
  cases i with
  |zero=>simp[argsNames,nth]
  |succ i =>
   have:=ih (i:=i) (by simpa using h);simp only[List.take_succ_cons,argsNames,this];have hn:nth (d::r) (i+1)=nth r i:=rfl;rw[hn];omega
theorem Yc {l:List DepT} {i:Nat} (h:i < l.length):argsSize (l.take i)+(nth l i).size≤argsSize l:=by
 induction l generalizing i with
 |nil=>simp at h
 |cons d r ih =>
  cases i with
  |zero=>simp only[List.take_zero,argsSize];show 0+d.size≤_;omega
  |succ i =>
   have:=ih (i:=i) (by simpa using h);have hn:nth (d::r) (i+1)=nth r i:=rfl;simp only[List.take_succ_cons,argsSize,hn];omega
theorem ArgsC.five {w:World} {args:List DepT} {css:List (List Value)} (h:ArgsC w args css) {i:Nat} (hi:i < args.length):∃k nm op ev sv bs cs,nth css i=[.int .i64 k,S nm,.int .i64 op,S ev,sv]∧RowIs w sv bs.length 5 cs.flatten∧nth args i = .mk k nm op ev bs∧ArgsC w bs cs:=by
 have h1:=ArgsC.at h i hi
 cases hd:nth args i with
 |mk k nm op ev bs =>
  rw[hd] at h1;unfold DepC at h1;obtain⟨sv,cs,e,hr,hc⟩:=h1;exact⟨k,nm,op,ev,sv,bs,cs,e,hr,rfl,hc⟩
theorem Xz (l:List UInt8) (b0 m:Nat) (w:World) (hc:w.heap[b0]? = some (.cells #[.int .i64 ((m:Int))] 3 (0,0))) (hm:m≤9000000) :
  Calls prog 171 #[(S l),(.pointer (some ⟨b0,0,none⟩))] w (Ret fun v w'=>w'.heap[b0]? = some (.cells #[.int .i64 (((m+1:Nat):Int))] 3 (0,0))∧w.grownBy w' (some b0)):=by
 refine D1 func171 rfl ntmps171 (W_reg ?_);refine He (a:=⟨b0,0,none⟩) (v:=(.int .i64 ((m:Int)))) rfl rfl underlying3 rfl (Er hc rfl) (O8 (b:=1) (v:=(m:Int)+1) rfl rfl rfl (by simp only[kLo,kHi];omega) ?_);have p1:=hc;refine O6 (b:=b0) (o:=0) (v:=(.int .i64 ((m:Int)+1))) rfl rfl rfl (fun _=>by kernel_rfl) rfl p1 (by simp) (fun w1 u1=>?_);have e1:w1.heap[b0]? = some (.cells #[(.int .i64 ((m:Int)+1))] 3 (0,0)):=u1.here;have z1:=u1.size;refine A0 (Oz (fn:=Tryz.f171) (by first|exact .inl rfl|exact .inr rfl) rfl ?_);exact⟨by simpa using e1,(Q4j (W2 w _) u1 (by first|(left;omega)|(right;rfl)))⟩
mutual
theorem Wh:∀d:DepT,Cu d=true→F7 d=El d
 |.mk k nm op ev args,h=>by
  unfold Cu at h;unfold F7 El;by_cases hk:k=1
  ·rw[if_pos hk] at h;rw[if_pos hk,if_pos hk];rw[Q4m] at h;have h0:=(of_decide_eq_true h).2.1;rw[List.length_eq_zero_iff.1 h0];rfl
  ·rw[if_neg hk] at h;rw[if_neg hk,if_neg hk];simp only[Bool.and_eq_true] at h;rw[argsNames_parts k args h.2];omega
theorem argsNames_parts (k:Int):∀l:List DepT,argsForm k l=true→argsNames l=argsParts l
 |[],_=>rfl
 |d::r,h=>by
  unfold argsForm at h;simp only[Bool.and_eq_true] at h;unfold argsNames argsParts;rw[Wh d h.2.1,argsNames_parts k r h.2.2]
end
def Cc:List UInt8→List UInt8
 |[]=>[]
 |c::r=>if c=32 then Cc r else c::r
def Dq:List UInt8→Nat→Nat
 |[],_=>0
 |c::r,n=>if c=32 then 0 else if c=41 then (if n=0 then 0 else Dq r (n-1)+1) else if c=40 then Dq r (n+1)+1 else Dq r n+1
def Al (s:List UInt8):List UInt8 × List UInt8:=match Cc s with
 |[]=>([],[])
 |c::r=>if c=40∨c=41 then ([c],r) else ((c::r).take (Dq (c::r) 0),(c::r).drop (Dq (c::r) 0))
def Nl:Nat→List UInt8→List (List UInt8)
 |0,_=>[]
 |n+1,s=>if (Al s).1=[] then [] else (Al s).1::Nl n (Al s).2
def Pf (s:List UInt8):List (List UInt8):=Nl s.length s
theorem R7:∀s,(Cc s).length≤s.length
 |[]=>by simp[Cc]
 |c::r=>by unfold Cc;have:=R7 r;split<;>simp<;>omega
theorem Vk:∀{s c r},Cc s=c::r→c≠32
 |[],_,_,h=>by simp[Cc] at h
 |a::s,c,r,h=>by
  unfold Cc at h;split at h
  ·exact Vk h
  ·rename_i hne;cases h;exact hne
theorem Q0e {c:UInt8} {r:List UInt8} (h1:c≠32) (h2:c≠41):1≤Dq (c::r) 0:=by
 unfold Dq;rw[if_neg h1,if_neg h2];split<;>omega
theorem Q2s {s:List UInt8} (h:(Al s).1≠[]):(Al s).2.length < s.length:=by
 have hle:=R7 s;unfold Al at h ⊢
 cases hs:Cc s with
 |nil=>rw[hs] at h;exact absurd rfl h
 |cons c r =>
  rw[hs] at hle;simp only[List.length_cons] at hle;simp only;split
  ·show r.length < _;omega
  ·rename_i hc;have:=Q0e (r:=r) (Vk hs) (fun e=>hc (.inr e));show((c::r).drop _).length < _;rw[List.length_drop,List.length_cons];omega
theorem Zg:∀(n m:Nat) (s:List UInt8),s.length≤n→s.length≤m→Nl n s=Nl m s
 |0,m,s,hn,_=>by
  have:s=[]:=List.length_eq_zero_iff.1 (by omega);subst this;cases m<;>rfl
 |n+1,0,s,_,hm=>by
  have:s=[]:=List.length_eq_zero_iff.1 (by omega);subst this;rfl
 |n+1,m+1,s,hn,hm=>by
  unfold Nl;split
  ·rfl
  ·rename_i h;have:=Q2s h;rw[Zg n m _ (by omega) (by omega)]
theorem Q9l (s:List UInt8):Pf s=if (Al s).1=[] then [] else (Al s).1::Pf (Al s).2:=by
 unfold Pf
 cases hs:s.length with
 |zero =>
  have:s=[]:=List.length_eq_zero_iff.1 hs;subst this;rfl
 |succ n =>
  conv=>lhs;unfold Nl
  split
  ·rfl
  ·rename_i h;have:=Q2s h;rw[Zg n _ _ (by omega) (Nat.le_refl _)]
theorem Q9m:Pf []=[]:=rfl
section
variable {s : List UInt8} {j o : Nat}
theorem U6 {c:UInt8} {k:Nat} (hk:k < 256):((c.toNat:Int)=(k:Int))↔c=UInt8.ofNat k:=by
 constructor
 ·intro h;apply UInt8.toNat_inj.1;rw[UInt8.toNat_ofNat'];omega
 ·rintro rfl;rw[UInt8.toNat_ofNat'];omega
theorem e32 {c:UInt8}:((c.toNat:Int)=32)↔c=32:=U6 (k:=32) (by omega)
theorem e40 {c:UInt8}:((c.toNat:Int)=40)↔c=40:=U6 (k:=40) (by omega)
theorem e41 {c:UInt8}:((c.toNat:Int)=41)↔c=41:=U6 (k:=41) (by omega)
theorem X1x (h:¬(j < s.length∧¬((Af s j).toNat:Int)=32)):Dq (s.drop j) o=0:=by
 by_cases hj:j < s.length
 ·have h2:((Af s j).toNat:Int)=32:=Decidable.byContradiction fun h2=>h ⟨hj,h2⟩;rw[Hv hj,Dq,if_pos (e32.1 h2)]
 ·rw[List.drop_of_length_le (by omega)];rfl
theorem X1v (h1:j < s.length∧¬((Af s j).toNat:Int)=32) (h:((Af s j).toNat:Int)=41∧o=0):Dq (s.drop j) o=0:=by
 rw[Hv h1.1,Dq,if_neg (fun e=>h1.2 (e32.2 e)),if_pos (e41.1 h.1),if_pos h.2]
theorem X1w (h1:j < s.length∧¬((Af s j).toNat:Int)=32) (h2:((Af s j).toNat:Int)=40):Dq (s.drop j) o=Dq (s.drop (j+1)) (o+1)+1:=by
 rw[Hv h1.1,Dq,if_neg (fun e=>h1.2 (e32.2 e)),if_neg (fun e=>by have:=e41.2 e;omega),if_pos (e40.1 h2)]
theorem X1z (h1:j < s.length∧¬((Af s j).toNat:Int)=32) (h2:((Af s j).toNat:Int)=41) (ho:o≠0):Dq (s.drop j) o=Dq (s.drop (j+1)) (o-1)+1:=by
 rw[Hv h1.1,Dq,if_neg (fun e=>h1.2 (e32.2 e)),if_pos (e41.1 h2),if_neg ho]
theorem X1y (h1:j < s.length∧¬((Af s j).toNat:Int)=32) (h2:¬((Af s j).toNat:Int)=40) (h3:¬((Af s j).toNat:Int)=41):Dq (s.drop j) o=Dq (s.drop (j+1)) o+1:=by
 rw[Hv h1.1,Dq,if_neg (fun e=>h1.2 (e32.2 e)),if_neg (fun e=>h3 (e41.2 e)),if_neg (fun e=>h2 (e40.2 e))]
end
theorem U8 {s:List UInt8} {i:Nat} (h:i < s.length):(s.take (i+1)).drop i=[Af s i]:=by
 rw[List.drop_take,show i+1-i=1 by omega,Hv h];rfl
theorem T2:Ai prog 221:=Am func221
theorem Lq:Ai prog 94:=Am func94
theorem Q58:Ai prog 156:=Am func156
theorem Ov:Ai prog 200:=Am func200
theorem Qx:Ai prog 222:=Am func222
def Be (s:List UInt8) (c:UInt8):Bool:=decide (s.take 1=[c])
theorem Q4i {s:List UInt8} {c:UInt8} (h:s.length < 1):Be s c=false:=by
 have:s=[]:=List.length_eq_zero_iff.1 (by omega);subst this;simp[Be]
theorem W0 {s:List UInt8} {c:UInt8}:Be s c=true↔0 < s.length∧Af s 0=c:=by
 unfold Be;rw[decide_eq_true_eq]
 cases s with
 |nil=>simp
 |cons a r=>simp[Af]
theorem X7j (s:List UInt8) (c:UInt8) (w:World) (hl:s.length≤9223372036854775807) :
  Calls prog 156 #[(S s),(S ([c]))] w (Ret fun v w'=>v = .bool (Be s c)∧w=w'):=by
 refine D1 func156 rfl ntmps156 ?_;refine W_seq (W_reg ?_);refine Ah (v:=(.bool false)) rfl rfl (A0 ?_);refine Q9 (fun σ' w'=>w=w'∧σ' 4=(.bool (Be s c))) ?_ ?_
 ·refine W_reg ?_;refine Ah (v:=(S s)) rfl rfl (J1 (l:=s) rfl rfl underlying9 ?_);refine Ah (v:=(S ([c]))) rfl rfl (J1 (l:=[c]) rfl rfl underlying9 ?_);refine Ah (v:=(.bool (decide (1≤(s.length:Int))))) rfl rfl (Ah (v:=(.bool (decide (1≤(s.length:Int))))) rfl rfl ?_);refine Ra 10 (p:=1≤(s.length:Int)) (by exact rfl) (fun c1=>?_) (fun c1=>?_)
  ·refine Ah (v:=(S s)) rfl rfl (Ah (v:=(S ([c]))) rfl rfl ?_);refine J1 (l:=[c]) rfl rfl underlying9 (Y4k (l:=s) (j:=1) rfl rfl rfl underlying9 (by first|rfl|omega) (by first|omega|(simp;done)|(simp;omega)) ?_);refine Ah (v:=(S ([c]))) rfl rfl ?_;refine Yn (l1:=(s.take 1)) (l2:=[c]) rfl rfl rfl (Ah (v:=(.bool (decide ((s.take 1)=[c])))) rfl rfl ?_);refine Ah (v:=(.bool (decide ((s.take 1)=[c])))) rfl rfl (A0 ?_);exact⟨rfl,(by show((.bool (decide ((s.take 1)=[c]))):Value)=(.bool (Be s c));first|(show Value.bool _=Value.bool _;rw[Q4i (by omega)])|(show Value.bool _=Value.bool _;simp[Be,c1];done)|rfl)⟩
  ·refine D9 rfl ?_;refine D9 rfl (D9 rfl ?_);refine D9 rfl (D9 rfl ?_);refine D9 rfl (Ah (v:=(.bool false)) rfl rfl ?_);refine Ah (v:=(.bool false)) rfl rfl (A0 ?_);exact⟨rfl,(by show((.bool false):Value)=(.bool (Be s c));first|(show Value.bool _=Value.bool _;rw[Q4i (by omega)])|(show Value.bool _=Value.bool _;simp[Be,c1];done)|rfl)⟩
 ·rintro σ1 _ ⟨rfl,h1_4⟩;refine C5 (d:=4) h1_4 (?_);refine W_ret ?_;refine E9 rfl (v0:=(.bool (Be s c))) rfl ?_;exact⟨rfl,rfl⟩
theorem Y6w (s:List UInt8) (c:UInt8) (w:World) (hl:s.length≤9223372036854775807) :
  Calls prog 94 #[(S s),(S ([c]))] w (Ret fun v w'=>v = .bool (Be s c)∧w=w'):=by
 refine D1 func94 rfl ntmps94 (W_seq ?_);refine W_reg (Ah (v:=(.bool false)) rfl rfl ?_);refine A0 (W_seq ?_);refine W_reg (Ah (v:=(S s)) rfl rfl ?_);refine Ah (v:=(S ([c]))) rfl rfl (Cv rfl (by exact Q58) (X7j s c _ hl) ?_);rintro _ _ ⟨rfl,rfl⟩;refine Ah (v:=(.bool (Be s c))) rfl rfl ?_;refine A0 (W_ret ?_);refine E9 rfl (v0:=(.bool (Be s c))) rfl ?_;exact⟨rfl,rfl⟩
def Lc (r:List UInt8):Nat:=if (Be r 40||Be r 41)=true then 1 else Dq r 0
theorem Q2r (s:List UInt8):Al s=((Cc s).take (Lc (Cc s)),(Cc s).drop (Lc (Cc s))):=by
 unfold Al Lc
 cases h:Cc s with
 |nil=>rfl
 |cons c r =>
  have e:∀k:UInt8,Be (c::r) k=true↔c=k:=by
   intro k;rw[W0];simp[Af]
  by_cases hc:c=40∨c=41
  ·simp only[if_pos hc];rw[if_pos (by rw[Bool.or_eq_true,e,e];exact hc)];rfl
  ·simp only[if_neg hc];rw[if_neg (by rw[Bool.or_eq_true,e,e];exact hc)]
theorem Q2n {r:List UInt8} (h:(Be r 40||Be r 41)=true):Lc r=1∧1≤r.length:=by
 refine⟨by unfold Lc;rw[if_pos h],?_⟩;rw[Bool.or_eq_true,W0,W0] at h;omega
theorem Q2m {r:List UInt8} (h:(Be r 40||Be r 41)=false):Lc r=Dq r 0:=by unfold Lc;rw[if_neg (by rw[h];simp)]
def atW (ws:List (List UInt8)) (n:Nat):List UInt8:=(ws[n]?).getD []
theorem Y3a {ws:List (List UInt8)} {n:Nat} (h:n < ws.length):atW ws n=nth ws n:=by
 unfold atW;rw[S4 h];rfl
theorem Y3b {ws:List (List UInt8)} {n:Nat} (h:ws.length≤n):atW ws n=[]:=by
 unfold atW;rw[List.getElem?_eq_none h];rfl
def Q3p (s:List UInt8):Int:=if s=[97,110,100] then 2 else if s=[111,114] then 3 else if s=[105,102] then 4 else if s=[119,105,116,104] then 5 else if s=[119,105,116,104,111,117,116] then 6 else 0
def Zb (ws:List (List UInt8)):Nat→Nat→Nat
 |_,0=>0
 |n,k+1=>Zb ws n k+((atW ws (n+k)).length+1)
def Ni (ws:List (List UInt8)) (rd:Nat→Option (DepT × Nat)):Prop:=∀n t m,rd n=some (t,m)→n < m∧t.size≤Zb ws n (m-n)
section
def RowX (p:Nat→Prop) (w:World) (v:Value) (n sz:Nat) (xs:List Value):Prop :=
 RowIs w v n sz xs∧(∀k,v.ownBlock=some k→k < w.heap.size∧p k)∧∀a n c,v = .slice a n c→n≤c∧(a=none→c=0)
theorem RowX.go {p q:Nat→Prop} {w w':World} {v:Value} {n sz:Nat} {xs:List Value} (h:RowX p w v n sz xs)
  (hb:∀k,k < w.heap.size→p k→q k∧w'.heap[k]? = w.heap[k]?) (hs:w.heap.size≤w'.heap.size):RowX q w' v n sz xs:=by
 obtain⟨⟨h1,h2⟩,h3,h4⟩:=h;refine⟨⟨h1,?_⟩,fun k hk=>⟨Nat.lt_of_lt_of_le (h3 k hk).1 hs,(hb k (h3 k hk).1 (h3 k hk).2).1⟩,h4⟩;rcases h2 with h2|⟨b,o,c,rfl,hc⟩
 ·exact .inl h2
 ·refine .inr ⟨b,o,c,rfl,fun j u hu=>?_⟩;have:=h3 b rfl;rw[World.cell?_of_block (w:=w) (a:=⟨b,o+j,none⟩) (hb b this.1 this.2).2];exact hc j u hu
theorem X3s {w:World} {base:Nat} {e:TypeId} {v:Value} {n sz:Nat} {xs:List Value} (h:w.ownsRow base e sz v n xs):∀a n c,v = .slice a n c→n≤c∧(a=none→c=0):=by
 rcases h.2 with⟨rfl,rfl⟩|⟨g,cap,cur,rfl,_,_,hc,_⟩
 ·intro a n c e;cases e;exact⟨Nat.le_refl _,fun _=>rfl⟩
 ·intro a n c e;cases e;exact⟨hc,fun e=>(by cases e)⟩
theorem RowX.owned {p:Nat→Prop} {w:World} {base:Nat} {e:TypeId} {v:Value} {n sz:Nat} {xs:List Value} (h:w.ownsRow base e sz v n xs) (hp:∀k,v.ownBlock=some k→base≤k→p k):RowX p w v n sz xs :=
 ⟨RowIs.owned h,fun k hk=>⟨(h.lt k hk).2,hp k hk (h.lt k hk).1⟩,X3s h⟩
theorem RowX.nil {p:Nat→Prop} {w:World} {sz:Nat}:RowX p w (.slice none 0 0) 0 sz []:=⟨⟨by simp,.inl ⟨rfl,_,_,rfl⟩⟩,fun k hk=>(by cases hk),fun a n c e=>(by cases e;exact⟨Nat.le_refl _,fun _=>rfl⟩)⟩
mutual
def DepX (p:Nat→Prop) (w:World):DepT→List Value→Prop
 |.mk k nm op ev args,cs=>∃(sv:Value) (css:List (List Value)),cs=[.int .i64 k,S nm,.int .i64 op,S ev,sv]∧RowX p w sv args.length 5 css.flatten∧ArgsX p w args css
def ArgsX (p:Nat→Prop) (w:World):List DepT→List (List Value)→Prop
 |[],css=>css=[]
 |d::r,css=>∃(c:List Value) (cr:List (List Value)),css=c::cr∧DepX p w d c∧ArgsX p w r cr
end
section
variable {p q : Nat → Prop} {w w' : World}
mutual
theorem DepX.go (hb:∀k,k < w.heap.size→p k→q k∧w'.heap[k]? = w.heap[k]?) (hs:w.heap.size≤w'.heap.size):∀(d:DepT) (cs:List Value),DepX p w d cs→DepX q w' d cs
 |.mk k nm op ev args,cs,h=>by
  unfold DepX at h ⊢;obtain⟨sv,css,h1,h2,h3⟩:=h;exact⟨sv,css,h1,h2.go hb hs,ArgsX.go hb hs args css h3⟩
theorem ArgsX.go (hb:∀k,k < w.heap.size→p k→q k∧w'.heap[k]? = w.heap[k]?) (hs:w.heap.size≤w'.heap.size):∀(l:List DepT) (css:List (List Value)),ArgsX p w l css→ArgsX q w' l css
 |[],css,h=>by unfold ArgsX at h ⊢;exact h
 |d::r,css,h=>by
  unfold ArgsX at h ⊢;obtain⟨c,cr,h1,h2,h3⟩:=h;exact⟨c,cr,h1,DepX.go hb hs d c h2,ArgsX.go hb hs r cr h3⟩
end
mutual
theorem DepX.toC:∀(d:DepT) (cs:List Value),DepX p w d cs→DepC w d cs
 |.mk k nm op ev args,cs,h=>by
  unfold DepX at h;unfold DepC;obtain⟨sv,css,h1,h2,h3⟩:=h;exact⟨sv,css,h1,h2.1,ArgsX.toC args css h3⟩
theorem ArgsX.toC:∀(l:List DepT) (css:List (List Value)),ArgsX p w l css→ArgsC w l css
 |[],css,h=>by unfold ArgsX at h;unfold ArgsC;exact h
 |d::r,css,h=>by
  unfold ArgsX at h;unfold ArgsC;obtain⟨c,cr,h1,h2,h3⟩:=h;exact⟨c,cr,h1,DepX.toC d c h2,ArgsX.toC r cr h3⟩
end
theorem DepX.ext (h:Below w.heap.size w w') (d:DepT) (cs:List Value) (k:DepX p w d cs):DepX p w' d cs:=DepX.go (fun b hb hp=>⟨hp,h.block b hb⟩) h.size d cs k
theorem ArgsX.nil:ArgsX p w [] []:=by unfold ArgsX;rfl
theorem ArgsX.one {d:DepT} {c:List Value} (h:DepX p w d c):ArgsX p w [d] [c]:=by
 unfold ArgsX;exact⟨c,[],rfl,h,ArgsX.nil⟩
theorem ArgsX.snoc {d:DepT} {c:List Value} (h:DepX p w d c):∀{l:List DepT} {css:List (List Value)},ArgsX p w l css→ArgsX p w (l++[d]) (css++[c])
 |[],css,h0=>by unfold ArgsX at h0;subst h0;exact ArgsX.one h
 |a::r,css,h0=>by
  unfold ArgsX at h0;obtain⟨x,cr,rfl,h2,h3⟩:=h0;show ArgsX p w (a::(r++[d])) (x::(cr++[c]));unfold ArgsX;exact⟨x,_,rfl,h2,ArgsX.snoc h h3⟩
theorem DepX.intro {k op:Int} {nm ev:List UInt8} {args:List DepT} {sv:Value} {css:List (List Value)} (h1:RowX p w sv args.length 5 css.flatten) (h2:ArgsX p w args css):DepX p w (.mk k nm op ev args) [.int .i64 k,S nm,.int .i64 op,S ev,sv]:=by
 unfold DepX;exact⟨sv,css,rfl,h1,h2⟩
end
section
variable {rd : Nat → Option (DepT × Nat)} {ws : List (List UInt8)} {first : DepT} {n m : Nat} {args : List DepT} {kw : List UInt8} {g : Nat}
end
end

theorem Gp (s:List UInt8):(Al s).1.length+(Al s).2.length≤s.length:=by
 have h:=R7 s;rw[Q2r];simp only[List.length_take,List.length_drop];omega
def Pan (ch:List PanicEntry) (T:Value→World→Prop) (U:World→Prop) (e:Ending) (w:World):Prop:=(∃v,e = .returned v∧T v w)∨(e = .panicked ch∧U w)
theorem Pan.pan {ch:List PanicEntry} {T:Value→World→Prop} {U:World→Prop} {w:World} (h:U w):Pan ch T U (.panicked ch) w:=.inr ⟨rfl,h⟩
theorem Pan.ret {ch:List PanicEntry} {T:Value→World→Prop} {U:World→Prop} {v:Value} {w:World} (h:T v w):Pan ch T U (.returned v) w:=.inl ⟨v,rfl,h⟩
section
variable {P : Program} {n : Nat} {Q : Exit → (Nat → Value) → World → Prop} {σ : Nat → Value} {w : World} {ch : List PanicEntry} {U : World → Prop}
theorem Q8n {ops:Array Oper} {rest:List Oper} {f:FuncId} {ar:Array Operand} {ts:Array TypeId} {ty:TypeId} {ps:String} {dst:Option Tmp} {af:Array Edge} {g:Option (Nat × Bool)} {T:Value→World→Prop}
  (hg:gOk ops n σ g=true) (he:Ai P f) (hc:Calls P f (ar.toList.map (ev n σ)).toArray w (Pan ch T U))
  (pan:∀w',U w'→Q (.panic ch) σ w')
  (next:∀v w',T v w'→WO P n ops rest Q (Bn σ dst v) w') :
  WO P n ops (⟨dst,.call { callee:=.value (.func f),args:=ar,argTypes:=ts },ty,ps,af,g⟩::rest) Q σ w:=by
 refine Nd (R:=Pan ch T U) (w':=w) (f:=f) (args:=(ar.toList.map (ev n σ)).toArray) hg ?_ hc ?_ ?_ ?_
 ·have:ar.map (ev n σ)=(ar.toList.map (ev n σ)).toArray:=by
   apply Array.ext';simp
  simp only[execOp,resolve,ev,this];have:=he (List.map (ev n σ) ar.toList).toArray w;simp[Deferred.ofValue,invoke,go_sem,this]
 ·rintro v w'' (⟨v',hv,hT⟩|⟨hv,_⟩)
  ·cases hv;exact next v w'' hT
  ·cases hv
 ·rintro ch' w'' (⟨v',hv,hT⟩|⟨hv,hU⟩)
  ·cases hv
  ·cases hv;exact pan w'' hU
 ·rintro w'' (⟨v',hv,hT⟩|⟨hv,hU⟩)<;>cases hv
theorem Y23 {fn:Func} {T:Value→World→Prop} {e:Exit} (he:e = .normal∨e = .ret) (hr:fn.results = #[]) (h:T (.tuple #[]) w):I7 P n fn (Pan ch T U) e σ w:=by
 rcases he with rfl|rfl<;>exact⟨_,results_none hr _ _ _,.inl ⟨_,rfl,h⟩⟩
end
theorem X42 {n:Nat} {a:Act} {d:Option Tmp} {v:Value} (h:∃σ,a.put d v=mk n σ):∃σ,a=mk n σ:=by
 obtain⟨σ,h⟩:=h
 have hs:a.tmps.size=n∧a.defers=[]:=by
  cases d with
  |none=>change a=_ at h;subst h;simp[mk]
  |some d =>
   have h1:=congrArg (fun a:Act=>a.tmps.size) h;have h2:=congrArg Act.defers h;simp[Act.put,mk] at h1 h2;exact⟨h1,h2⟩
 refine⟨fun i=>a.tmps.getD i undef,?_⟩
 cases a with
 |mk tmps defers =>
  obtain⟨rfl,rfl⟩:=hs;unfold mk;congr 1;apply Array.ext
  ·simp
  ·intro i h1 h2;simp only[Array.getElem_ofFn];rw[Array.getD_eq_getD_getElem?,Array.getElem?_eq_getElem h1];rfl
def Nz (n:Nat) (Q:(Nat→Value)→World→Prop) (U:List PanicEntry→World→Prop):Exit→Act→World→Prop:=fun e a w =>
 (e = .normal∧∃σ,a=mk n σ∧Q σ w)∨∃c,e = .panic c∧(∃σ,a=mk n σ)∧U c w
def WZ (P:Program) (n:Nat) (ops:Array Oper) (Q:(Nat→Value)→World→Prop) (U:List PanicEntry→World→Prop) (fuel:Nat) (listed:Array Bool) (σ:Nat→Value) (w:World):Prop :=
 wpAny P .any ops (Nz n Q U) fuel listed (mk n σ) w
section
variable {P : Program} {n : Nat} {σ : Nat → Value} {w : World}
theorem Y39 {Q:Exit→(Nat→Value)→World→Prop} {id:Nat} {l:List Oper} (hm:P.follows .mixedOrders=true)
  (h:∀w',Drew w w'→WZ P n l.toArray (Q .normal) (fun c w=>∀σ,Q (.panic c) σ w) l.length (Array.replicate l.length false) σ w'):W P n (.region id l.toArray true) Q σ w:=by
 unfold W;refine wp_mono (wp_region_any hm (h _ ⟨1,rfl⟩)) ?_;rintro e a w (⟨rfl,σ',ha,hq⟩|⟨c,rfl,⟨σ',ha⟩,hq⟩)
 ·exact⟨σ',ha,hq⟩
 ·exact⟨σ',ha,hq σ'⟩
variable {ops : Array Oper} {Q : (Nat → Value) → World → Prop} {U : List PanicEntry → World → Prop} {fuel : Nat} {listed : Array Bool}
theorem X28 {d:Option Tmp} {v:Value} (c:List PanicEntry) (a:Act) (w:World) (h:Nz n Q U (.panic c) (a.put d v) w):Nz n Q U (.panic c) a w:=by
 rcases h with⟨h,_⟩|⟨c',hc,ha,hu⟩
 ·cases h
 ·exact .inr ⟨c',hc,X42 ha,hu⟩
theorem Y4f (i:Nat) {o:Oper} {v:Value} (hi:ops[i]? = some o) (hs:Region.noSelect ops=true) (hf:Region.free .any ops listed i=true) (hr:(Region.ready .any ops listed).contains i=true)
  (hg:gOk ops n σ o.guard=true) (h:∀w,(execOp (ev n σ) o).run P w = .ok (.value v) w) (next:WZ P n ops Q U fuel (listed.setIfInBounds i true) (Bn σ o.dst v) w):WZ P n ops Q U (fuel+1) listed σ w:=by
 unfold WZ;refine wpAny_take hi hs hf hr X28 (.inl ⟨by rw[wanted_mk];exact hg,fun w=>by rw[mk_eval];exact h w⟩) ?_;rw[mk_put];exact next
theorem Ze {o:Oper} {a:Act} {w:World} {K K':Act→World→Prop} {R R':Exit→Act→World→Prop} (h:∀a w,K a w→K' a w) (hp:∀c a w,R (.panic c) a w→R' (.panic c) a w) (ho:¬LetsOut R) (hh:o.wp P a w K R):o.wp P a w K' R':=by
 unfold Oper.wp at *;generalize (execOp a.eval o).run P w=r at *
 cases r with
 |ok n w' =>
  cases n<;>simp only[Oper.upon] at hh ⊢ <;>
   first
    |exact h _ _ hh
    |exact Calls.mono hh (fun e w'' he=>by cases e<;>first|exact h _ _ he|exact hp _ _ _ he|exact absurd he ho)
    |exact Rows.mono hh (fun _ _ he=>h _ _ he)
 |halt x w'=>cases x<;>simp only[Oper.upon] at hh ⊢ <;> exact hp _ _ _ hh
def Jn (P:Program) (n:Nat) (ops:Array Oper) (Q:(Nat→Value)→World→Prop) (U:List PanicEntry→World→Prop) (fuel:Nat) (listed:Array Bool) (i:Nat):Exit→(Nat→Value)→World→Prop :=
 fun e σ' w'=>(e = .normal∧WZ P n ops Q U fuel (listed.setIfInBounds i true) σ' w')∨∃c,e = .panic c∧U c w'
theorem Yk {k:Nat} {o:Oper} (hk:ops[k]? = some o) (h:WO P n ops [o] (Jn P n ops Q U fuel listed k) σ w) :
  wpOp P ops (Nz n Q U) k (wpAny P .any ops (Nz n Q U) fuel (listed.setIfInBounds k true)) (mk n σ) w:=by
 unfold WO wpList at h;unfold wpOp;simp only[hk]
 have ho:¬LetsOut (lift n (Jn P n ops Q U fuel listed k)):=by
  rintro⟨a,w,σ',_,(⟨h,_⟩|⟨c,h,_⟩)⟩<;>cases h
 have hkk:∀a w',wpList P ops (lift n (Jn P n ops Q U fuel listed k)) [] a w'→wpAny P .any ops (Nz n Q U) fuel (listed.setIfInBounds k true) a w':=by
  rintro a w' ⟨σ',rfl,(⟨_,hx⟩|⟨c,hx,_⟩)⟩
  ·unfold WZ at hx;exact hx
  ·cases hx
 split at h
 ·rename_i hw;rw[if_pos hw];rcases h with h|⟨_,h⟩
  ·refine .inl (Ze hkk (fun c a w hc=>?_) ho h);obtain⟨σ',ha,(⟨hx,_⟩|⟨c',hx,hu⟩)⟩:=hc
   ·cases hx
   ·exact .inr ⟨c',hx,⟨σ',ha⟩,hu⟩
  ·exact absurd h ho
 ·rename_i hw;rw[if_neg hw];exact hkk _ _ h
theorem Y4g (i:Nat) {o:Oper} (hr:Region.ready .any ops listed=[i]) (hi:ops[i]? = some o) (h:WO P n ops [o] (Jn P n ops Q U fuel listed i) σ w):WZ P n ops Q U (fuel+1) listed σ w:=by
 unfold WZ;refine wpAny_all hr (by simp) fun j hj=>?_
 obtain rfl:j=i:=by simpa using hj
 exact Yk hi h
theorem Y4e (i j:Nat) {oi oj:Oper} (hr:Region.ready .any ops listed=[i,j]) (hi:ops[i]? = some oi) (hj:ops[j]? = some oj)
  (h1:WO P n ops [oi] (Jn P n ops Q U fuel listed i) σ w) (h2:WO P n ops [oj] (Jn P n ops Q U fuel listed j) σ w):WZ P n ops Q U (fuel+1) listed σ w:=by
 unfold WZ;refine wpAny_all hr (by simp) fun k hk=>?_;rcases List.mem_cons.1 hk with rfl|hk
 ·exact Yk hi h1
 ·obtain rfl:k=j:=by simpa using hk
  exact Yk hj h2
end
attribute [irreducible] WZ
theorem X4a {P:Program} {n:Nat} {ops:Array Oper} {Q:(Nat→Value)→World→Prop} {U:List PanicEntry→World→Prop} {fuel:Nat} {listed:Array Bool} {i:Nat} {σ:Nat→Value} {w:World}
  (h:WZ P n ops Q U fuel (listed.setIfInBounds i true) σ w):Jn P n ops Q U fuel listed i .normal σ w:=.inl ⟨rfl,h⟩
theorem X39 {P:Program} {n:Nat} {ops:Array Oper} {Q:(Nat→Value)→World→Prop} {U:List PanicEntry→World→Prop} {fuel:Nat} {listed:Array Bool} {i:Nat} {σ:Nat→Value} {w:World} {c:List PanicEntry}
  (h:U c w):Jn P n ops Q U fuel listed i (.panic c) σ w:=.inr ⟨c,rfl,h⟩
def Rep (ws:List (List UInt8)) (n:Nat) (txt:List UInt8):Prop:=Pf txt=ws.drop (n+1)∧txt.length≤8388608
theorem X4o {s:List UInt8} (h:(Al s).1=[]):(Al s).2=[]:=by
 unfold Al at h ⊢
 cases hs:Cc s with
 |nil=>rfl
 |cons c r =>
  rw[hs] at h;simp only at h;split at h
  ·cases h
  ·rename_i hc;have:=Q0e (r:=r) (Vk hs) (fun e=>hc (.inr e));have:=congrArg List.length h;simp only[List.length_take,List.length_cons,List.length_nil] at this;omega
theorem Rep.next {ws:List (List UInt8)} {n:Nat} {txt:List UInt8} (h:Rep ws n txt):(Al txt).1=atW ws (n+1)∧Rep ws (n+1) (Al txt).2:=by
 obtain⟨h1,h2⟩:=h;have hl:=Gp txt;rw[Q9l] at h1;split at h1
 ·rename_i hn
  have hle:ws.length≤n+1:=by
   have:=congrArg List.length h1;simp only[List.length_nil,List.length_drop] at this;omega
  refine⟨by rw[hn,Y3b hle],?_,by omega⟩;rw[X4o hn,Q9m,List.drop_of_length_le (by omega)]
 ·have hlt:n+1 < ws.length:=by
   have:=congrArg List.length h1;simp only[List.length_cons,List.length_drop] at this;omega
  rw[Xt hlt] at h1;injection h1 with e1 e2;exact⟨by rw[e1,Y3a hlt],e2,by omega⟩
theorem Gt:Ai prog 202:=Am func202
theorem Hu:Ai prog 201:=Am func201
def C0:List PanicEntry:=[{ v:=.iface 246 (.agg #[]),recovered:=false }]
theorem X4r (c:Bool) (w:World) :
  Calls prog 202 #[(.bool c)] w (Pan C0 (fun v w'=>c=true∧v = .tuple #[]∧w=w') (fun w'=>c=false∧w=w')):=by
 refine D1 func202 rfl ntmps202 (W_seq ?_);refine W_reg (Ah (v:=(.bool c)) rfl rfl ?_);refine Ah (v:=(.bool (!c))) rfl rfl (A0 ?_);refine W_cond (t:=!c) rfl (fun c1=>?_) (fun c1=>?_)
 ·refine W_reg (Eu (v:=.agg #[]) rfl (by kernel_rfl) ?_);refine Eu (v:=.iface 246 (.agg #[])) rfl (by kernel_rfl) (Y4n (v:=.iface 246 (.agg #[])) (w':=w) rfl (by kernel_rfl) ?_)
  ·have hU:c=false∧w=w:=⟨by simpa using c1,rfl⟩
   exact(show Pan C0 (fun v w'=>c=true∧v = .tuple #[]∧w=w') (fun w'=>c=false∧w=w') (.panicked C0) w from Pan.pan hU)
 ·refine W_skip (Y23 (fn:=Tryz.f202) (by first|exact .inl rfl|exact .inr rfl) rfl ?_);exact⟨by simpa using c1,rfl,rfl⟩
section
open Go Go.RowKit
theorem W_any {P:Program} {n:Nat} {c:Code} {Q:Exit→Act→World→Prop} {σ:Nat→Value} {w:World} (h:W P n c (fun e σ w=>Q e (mk n σ) w) σ w):c.wp P Q (mk n σ) w:=by
 unfold W at h;refine wp_mono h ?_;rintro e a w ⟨σ',rfl,q⟩;exact q
theorem Y38 {P:Program} {n:Nat} {x y:Code} {Q:Exit→Act→World→Prop} {σ:Nat→Value} {w:World} (h:W P n x (Pp (fun σ w=>y.wp P Q (mk n σ) w) (fun _ _ _=>False)) σ w):(Code.seq x y).wp P Q (mk n σ) w:=by
 unfold W at h;refine wp_seq (wp_mono h ?_);rintro e a w ⟨σ',rfl,q⟩
 cases e<;>first|exact q|exact q.elim
namespace D
def mk (ds:List Deferred) (n:Nat) (σ:Nat→Value):Act:={ tmps:=Array.ofFn (n:=n) (fun i=>σ i.1),defers:=ds }
def lift (ds:List Deferred) (n:Nat) (Q:Exit→(Nat→Value)→World→Prop):Exit→Act→World→Prop:=fun e a w=>∃σ,a=mk ds n σ∧Q e σ w
def W (P:Program) (ds:List Deferred) (n:Nat) (c:Code) (Q:Exit→(Nat→Value)→World→Prop) (σ:Nat→Value) (w:World):Prop:=c.wp P (lift ds n Q) (mk ds n σ) w
def WO (P:Program) (ds:List Deferred) (n:Nat) (ops:Array Oper) (l:List Oper) (Q:Exit→(Nat→Value)→World→Prop) (σ:Nat→Value) (w:World):Prop :=
 wpList P ops (lift ds n Q) l (mk ds n σ) w
theorem G7 (ds:List Deferred) (n:Nat) (σ:Nat→Value) (t:Nat):(mk ds n σ).tmps.getD t undef=sl n σ t:=by
 simp only[mk,sl,Array.getD_eq_getD_getElem?,Array.getElem?_ofFn];by_cases h:t < n
 ·have:Nat.blt t n=true:=by simpa [Nat.blt_eq] using h
  simp[h,this]
 ·have:Nat.blt t n=false:=by rw[Bool.eq_false_iff];intro h';exact h (by simpa [Nat.blt_eq] using h')
  simp[h,this]
theorem mk_eval (ds:List Deferred) (n:Nat) (σ:Nat→Value):(mk ds n σ).eval=ev n σ:=by
 funext x
 cases x with
 |tmp t=>exact G7 ds n σ t
 |const v=>rfl
 |global g=>rfl
 |func f=>rfl
theorem mk_put (ds:List Deferred) (n:Nat) (σ:Nat→Value) (d:Option Nat) (v:Value):(mk ds n σ).put d v=mk ds n (Bn σ d v):=by
 cases d with
 |none=>rfl
 |some d =>
  simp only[mk,Act.put,Bn];congr 1;apply Array.ext
  ·simp
  ·intro i h1 h2;simp only[Array.getElem_ofFn,upd];rw[Array.getElem_setIfInBounds (by simpa using h1)];by_cases h:d=i
   ·subst h;simp
   ·have:Nat.beq i d=false:=by rw[Bool.eq_false_iff];intro h';exact h (Nat.eq_of_beq_eq_true h').symm
    simp[h,this]
theorem wanted_mk (ops:Array Oper) (ds:List Deferred) (n:Nat) (σ:Nat→Value) (o:Oper):Region.wanted o (yielded ops (mk ds n σ).tmps)=gOk ops n σ o.guard:=Proofs.YtglcebdfdehidaaGreatDoor.wanted_mk ops n σ o
section
variable {P : Program} {ds : List Deferred} {n : Nat} {Q : Exit → (Nat → Value) → World → Prop} {σ : Nat → Value} {w : World}
theorem W_mono {c:Code} {Q':Exit→(Nat→Value)→World→Prop} (h:W P ds n c Q σ w) (hq:∀e σ w,Q e σ w→Q' e σ w):W P ds n c Q' σ w :=
 wp_mono h fun _ _ _ ⟨σ',ha,q⟩=>⟨σ',ha,hq _ _ _ q⟩
theorem W_seq {x y:Code} (h:W P ds n x (Pp (W P ds n y Q) Q) σ w):W P ds n (.seq x y) Q σ w:=by
 refine wp_seq (wp_mono h ?_);rintro e a w ⟨σ',rfl,q⟩
 cases e<;>first|exact q|exact⟨σ',rfl,q⟩
theorem W_skip (h:Q .normal σ w):W P ds n .skip Q σ w:=wp_skip ⟨σ,rfl,h⟩
theorem W_ret (h:Q .ret σ w):W P ds n .ret Q σ w:=wp_ret ⟨σ,rfl,h⟩
theorem W_cond {c:Operand} {x y:Code} {t:Bool} (hc:ev n σ c = .bool t) (ht:t=true→W P ds n x Q σ w) (hf:t=false→W P ds n y Q σ w) :
  W P ds n (.cond c x y) Q σ w :=
 wp_cond_split (by rw[mk_eval];exact hc) ht hf
theorem M8 {c:Operand} {x y:Code} (hc:ev n σ c = .bool true) (h:W P ds n x Q σ w):W P ds n (.cond c x y) Q σ w :=
 wp_cond_true (by rw[mk_eval];exact hc) h
theorem Kz {c:Operand} {x y:Code} (hc:ev n σ c = .bool false) (h:W P ds n y Q σ w):W P ds n (.cond c x y) Q σ w :=
 wp_cond_false (by rw[mk_eval];exact hc) h
theorem Fu {c:Operand} {x y:Code} {p:Prop} [Decidable p] (hc:ev n σ c = .bool (decide p)) (ht:p→W P ds n x Q σ w) (hf:¬p→W P ds n y Q σ w) :
  W P ds n (.cond c x y) Q σ w :=
 W_cond hc (fun h=>ht (of_decide_eq_true h)) (fun h=>hf (of_decide_eq_false h))
theorem W_reg {id:Nat} {l:List Oper} (h:WO P ds n l.toArray l Q σ w):W P ds n (.region id l.toArray false) Q σ w:=wp_region_lit h
theorem A0 {ops:Array Oper} (h:Q .normal σ w):WO P ds n ops [] Q σ w:=⟨σ,rfl,h⟩
theorem B8 {ops:Array Oper} {o:Oper} {rest:List Oper} {v:Value} {w':World} (hg:gOk ops n σ o.guard=true)
  (h:(execOp (ev n σ) o).run P w = .ok (.value v) w') (next:WO P ds n ops rest Q (Bn σ o.dst v) w'):WO P ds n ops (o::rest) Q σ w:=by
 unfold WO wpList;rw[wanted_mk,hg,if_pos rfl];left;unfold Oper.wp;rw[mk_eval,h,Oper.upon_value,mk_put];exact next
theorem Eu {ops:Array Oper} {o:Oper} {rest:List Oper} {v:Value} (hg:gOk ops n σ o.guard=true)
  (h:(execOp (ev n σ) o).run P w = .ok (.value v) w) (next:WO P ds n ops rest Q (Bn σ o.dst v) w):WO P ds n ops (o::rest) Q σ w:=B8 hg h next
theorem Hd {ops:Array Oper} {o:Oper} {rest:List Oper} {w':World} (hg:gOk ops n σ o.guard=true)
  (h:(execOp (ev n σ) o).run P w = .ok .skip w') (next:WO P ds n ops rest Q (Bn σ o.dst undef) w'):WO P ds n ops (o::rest) Q σ w:=by
 unfold WO wpList;rw[wanted_mk,hg,if_pos rfl];left;unfold Oper.wp;rw[mk_eval,h,Oper.upon_skip,mk_put];exact next
theorem D9 {ops:Array Oper} {o:Oper} {rest:List Oper} (hg:gOk ops n σ o.guard=false)
  (next:WO P ds n ops rest Q (Bn σ o.dst undef) w):WO P ds n ops (o::rest) Q σ w:=by
 unfold WO wpList;rw[wanted_mk,hg,if_neg (by simp)];rw[mk_put];exact next
theorem Nd {ops:Array Oper} {o:Oper} {rest:List Oper} {f:FuncId} {args:Array Value} {w':World} {R:Ending→World→Prop} (hg:gOk ops n σ o.guard=true)
  (h:(execOp (ev n σ) o).run P w = .ok (.enter f args) w') (hc:Calls P f args w' R)
  (next:∀v w'',R (.returned v) w''→WO P ds n ops rest Q (Bn σ o.dst v) w'')
  (nop:∀ch w'',R (.panicked ch) w''→Q (.panic ch) σ w'')
  (noo:∀w'',¬R .outgrown w''):WO P ds n ops (o::rest) Q σ w:=by
 unfold WO wpList;rw[wanted_mk,hg,if_pos rfl];left;unfold Oper.wp;rw[mk_eval,h,Oper.upon_enter];refine hc.mono ?_;intro e w'' hR
 cases e with
 |returned v=>show wpList _ _ _ _ _ _;rw[mk_put];exact next v w'' hR
 |panicked ch=>exact⟨σ,rfl,nop ch w'' hR⟩
 |outgrown=>exact(noo w'' hR).elim
theorem Ip {ops:Array Oper} {l:List Oper} (t:Nat) {v v':Value} (h:σ t=v) (e:v=v') (k:WO P ds n ops l Q (upd σ t v') w):WO P ds n ops l Q σ w:=by
 rw[Ph (h.trans e)];exact k
theorem Ah {ops:Array Oper} {o:Oper} {rest:List Oper} {v:Value} (hg:gOk ops n σ o.guard=true) (h:Jj n σ o.op=some v)
  (next:WO P ds n ops rest Q (Bn σ o.dst v) w):WO P ds n ops (o::rest) Q σ w:=B8 hg (Ji h) next
theorem C5 {c:Code} {d:Nat} {v:Value} (h:σ d=v) (k:W P ds n c Q (upd σ d v) w):W P ds n c Q σ w:=by
 rw[Ph h];exact k
theorem Cv {ops:Array Oper} {rest:List Oper} {f:FuncId} {ar:Array Operand} {ts:Array TypeId} {ty:TypeId} {ps:String} {dst:Option Tmp} {af:Array Edge} {g:Option (Nat × Bool)} {T:Value→World→Prop}
  (hg:gOk ops n σ g=true) (he:Ai P f) (hc:Calls P f (ar.toList.map (ev n σ)).toArray w (Ret T))
  (next:∀v w',T v w'→WO P ds n ops rest Q (Bn σ dst v) w') :
  WO P ds n ops (⟨dst,.call { callee:=.value (.func f),args:=ar,argTypes:=ts },ty,ps,af,g⟩::rest) Q σ w:=by
 refine Nd (R:=Ret T) (w':=w) (f:=f) (args:=(ar.toList.map (ev n σ)).toArray) hg ?_ hc ?_ ?_ ?_
 ·have:ar.map (ev n σ)=(ar.toList.map (ev n σ)).toArray:=by
   apply Array.ext';simp
  simp only[execOp,resolve,ev,this];have:=he (List.map (ev n σ) ar.toList).toArray w;simp[Deferred.ofValue,invoke,go_sem,this]
 ·rintro v w'' ⟨v',hv,hT⟩;cases hv;exact next v w'' hT
 ·rintro ch w'' ⟨v',hv,hT⟩;cases hv
 ·rintro w'' ⟨v',hv,hT⟩;cases hv
theorem Yn {ops:Array Oper} {rest:List Oper} {dst:Option Tmp} {x y:Operand} {t t' ty:TypeId} {ps:String} {af:Array Edge} {g:Option (Nat × Bool)} {l1 l2:List UInt8}
  (hg:gOk ops n σ g=true) (hx:ev n σ x=S l1) (hy:ev n σ y=S l2)
  (next:WO P ds n ops rest Q (Bn σ dst ((.bool (decide (l1=l2))))) w):WO P ds n ops (⟨dst,.binOp .eql t x y t',ty,ps,af,g⟩::rest) Q σ w :=
 B8 hg (Yv hx hy) next
theorem Q8n {ops:Array Oper} {rest:List Oper} {ch:List PanicEntry} {U:World→Prop} {f:FuncId} {ar:Array Operand} {ts:Array TypeId} {ty:TypeId} {ps:String} {dst:Option Tmp} {af:Array Edge} {g:Option (Nat × Bool)} {T:Value→World→Prop}
  (hg:gOk ops n σ g=true) (he:Ai P f) (hc:Calls P f (ar.toList.map (ev n σ)).toArray w (Pan ch T U))
  (pan:∀w',U w'→Q (.panic ch) σ w')
  (next:∀v w',T v w'→WO P ds n ops rest Q (Bn σ dst v) w') :
  WO P ds n ops (⟨dst,.call { callee:=.value (.func f),args:=ar,argTypes:=ts },ty,ps,af,g⟩::rest) Q σ w:=by
 refine Nd (R:=Pan ch T U) (w':=w) (f:=f) (args:=(ar.toList.map (ev n σ)).toArray) hg ?_ hc ?_ ?_ ?_
 ·have:ar.map (ev n σ)=(ar.toList.map (ev n σ)).toArray:=by
   apply Array.ext';simp
  simp only[execOp,resolve,ev,this];have:=he (List.map (ev n σ) ar.toList).toArray w;simp[Deferred.ofValue,invoke,go_sem,this]
 ·rintro v w'' (⟨v',hv,hT⟩|⟨hv,_⟩)
  ·cases hv;exact next v w'' hT
  ·cases hv
 ·rintro ch' w'' (⟨v',hv,hT⟩|⟨hv,hU⟩)
  ·cases hv
  ·cases hv;exact pan w'' hU
 ·rintro w'' (⟨v',hv,hT⟩|⟨hv,hU⟩)<;>cases hv
end
section
variable {P : Program} {ds : List Deferred} {n : Nat} {Q : Exit → (Nat → Value) → World → Prop} {σ : Nat → Value} {w : World}
variable {ops : Array Oper} {rest : List Oper} {dst : Option Tmp} {ty : TypeId} {ps : String} {af : Array Edge} {g : Option (Nat × Bool)}
theorem Yp {t:TypeId} {x:Operand} {v:Value} (hg:gOk ops n σ g=true) (hx:ev n σ x=v)
  (next:∀w',New w w' (.cells v.cells t)→WO P ds n ops rest Q (Bn σ dst (.pointer (some ⟨w.heap.size,0,none⟩))) w') :
  WO P ds n ops (⟨dst,.box t x,ty,ps,af,g⟩::rest) Q σ w:=by
 refine B8 hg ?_ (next _ rfl);simp[execOp,Instr.box,hx,newVar,newRow,go_sem]
theorem O7 {t:TypeId} {v:Value} (hg:gOk ops n σ g=true) (hz:∀w,(zeroValue t).run P w = .ok v w)
  (next:∀w',New w w' (.cells v.cells t)→WO P ds n ops rest Q (Bn σ dst (.pointer (some ⟨w.heap.size,0,none⟩))) w') :
  WO P ds n ops (⟨dst,.alloc t,ty,ps,af,g⟩::rest) Q σ w:=by
 refine B8 hg ?_ (next _ rfl);simp[execOp,Instr.alloc,hz,newVar,newRow,go_sem]
theorem He {t:TypeId} {d:TypeDesc} {x:Operand} {a:Addr} {v:Value} (hg:gOk ops n σ g=true) (hx:ev n σ x = .pointer (some a)) (ht:P.underlying t=some d) (hd:Gl d=true) (hc:w.cell? a=some v)
  (next:WO P ds n ops rest Q (Bn σ dst (v)) w):WO P ds n ops (⟨dst,.load t x,ty,ps,af,g⟩::rest) Q σ w :=
 B8 hg (Rk hx ht hd hc) next
theorem O6 {t:TypeId} {x y:Operand} {b o:Nat} {c:Array Value} {e:TypeId} {v:Value} (hg:gOk ops n σ g=true) (hx:ev n σ x = .pointer (some ⟨b,o,none⟩)) (hy:ev n σ y=v)
  (hs:∀w,(sizeOf t).run P w = .ok 1 w) (h1:Mk v=true) (hb:w.heap[b]? = some (.cells c e (0,0))) (ho:o < c.size)
  (next:∀w',Upd w w' b (.cells (c.setIfInBounds o v) e (0,0))→WO P ds n ops rest Q (Bn σ dst undef) w'):WO P ds n ops (⟨dst,.store t x y,ty,ps,af,g⟩::rest) Q σ w:=by
 have hcell:w.cell? ⟨b,o,none⟩=some c[o]:=Er hb (by simp[ho])
 have hfr:w.frozen? ⟨b,o,none⟩=false:=by simp[World.frozen?,hb]
 have hcs:v.cells = #[v]:=by cases v<;>first|rfl|simp[Mk] at h1
 refine Hd (w':=w.setCell ⟨b,o,none⟩ v) hg ?_ (next _ ⟨rfl,rfl,rfl,by simp[World.setCell],?_,?_⟩)
 ·cases v<;>first|(simp[Mk] at h1;done)|simp[execOp,Instr.storeAt,Instr.sureAddr,hx,hy,storeVar,hs,Value.cells,storeCells,store,Sem.run,hcell,hfr,Addr.add,go_sem]
 ·have hlt:=Gb hb;have:=(Array.getElem?_eq_some_iff.1 hb).2;simp[World.setCell,Array.getElem?_modify,hb]
 ·intro j hj;simp[World.setCell,Array.getElem?_modify,Ne.symm hj]
theorem O5 {t e:TypeId} {x y:Operand} {b o:Nat} {c c':Array Value} (hg:gOk ops n σ g=true) (hx:ev n σ x = .pointer (some ⟨b,o,none⟩)) (hy:ev n σ y = .agg c')
  (hs:∀w,(sizeOf t).run P w = .ok c'.size w) (h1:c'.all (·.oneCell')=true) (hb:w.heap[b]? = some (.cells c e (0,0))) (ho:o+c'.size≤c.size)
  (next:∀w',Upd w w' b (.cells (c.toList.take o++c'.toList++c.toList.drop (o+c'.size)).toArray e (0,0))→WO P ds n ops rest Q (Bn σ dst undef) w'):WO P ds n ops (⟨dst,.store t x y,ty,ps,af,g⟩::rest) Q σ w:=by
 have hr:=run_storeCells_at P b o e c'.toList 0 c w hb (by simpa using ho) (fun v hv=>by rw[Array.all_eq_true_iff_forall_mem] at h1;exact h1 v (by simpa using hv));refine Hd (w':=w.setRow b (c.toList.take (o+0)++c'.toList++c.toList.drop (o+0+c'.toList.length)).toArray) hg ?_ (next _ ⟨rfl,rfl,rfl,by simp[World.setRow],?_,?_⟩)
 ·have hr':(storeCells ⟨b,o,none⟩ c'.toList).run P w = .ok () (w.setRow b (c.toList.take (o+0)++c'.toList++c.toList.drop (o+0+c'.toList.length)).toArray):=hr;simp[execOp,Instr.storeAt,Instr.sureAddr,hx,hy,storeVar,hs,Value.cells,hr',go_sem]
 ·rw[setRow_heap w b c _ e _ hb];simp
 ·intro j hj;exact setRow_other w b j _ hj
theorem Nc {t e:TypeId} {d:TypeDesc} {x:Operand} {b o m:Nat} {c:Array Value} {fr:Nat × Nat} (hg:gOk ops n σ g=true) (hx:ev n σ x = .pointer (some ⟨b,o,none⟩)) (ht:P.underlying t=some d) (hd:Gl d=false)
  (hs:∀w,(sizeOf t).run P w = .ok m w) (hb:w.heap[b]? = some (.cells c e fr)) (ho:o+m≤c.size)
  (next:WO P ds n ops rest Q (Bn σ dst ((.agg ((c.toList.drop o).take m).toArray))) w):WO P ds n ops (⟨dst,.load t x,ty,ps,af,g⟩::rest) Q σ w :=
 B8 hg (Q89 hx ht hd hs hb ho) next
end
theorem W_any {P:Program} {ds:List Deferred} {n:Nat} {c:Code} {Q:Exit→Act→World→Prop} {σ:Nat→Value} {w:World} (h:W P ds n c (fun e σ w=>Q e (mk ds n σ) w) σ w):c.wp P Q (mk ds n σ) w:=by
 refine wp_mono h ?_;rintro e a w ⟨σ',rfl,q⟩;exact q
theorem wp_defer {P:Program} {n:Nat} {id:Nat} {o1:Oper} {op:Op} {ty:TypeId} {ps:String} {af:Array Edge} {y:Code} {Q:Exit→Act→World→Prop} {σ:Nat→Value} {w:World} {v:Value} {d:Deferred}
  (hg1:o1.guard=none) (h1:(execOp (ev n σ) o1).run P w = .ok (.value v) w) (h2:(execOp (ev n (Bn σ o1.dst v)) ⟨none,op,ty,ps,af,none⟩).run P w = .ok (.defer d) w)
  (h:y.wp P Q (mk [d] n (Bn σ o1.dst v)) w):(Code.seq (.region id [o1,⟨none,op,ty,ps,af,none⟩].toArray false) y).wp P Q (Proofs.YtglcebdfdehidaaGreatDoor.mk n σ) w:=by
 refine wp_seq (wp_region_lit ?_);unfold wpList;rw[Proofs.YtglcebdfdehidaaGreatDoor.wanted_mk,hg1,show ∀o:Array Oper,gOk o n σ none=true from fun _=>rfl,if_pos rfl];left;unfold Oper.wp;rw[Proofs.YtglcebdfdehidaaGreatDoor.mk_eval,h1,Oper.upon_value,Proofs.YtglcebdfdehidaaGreatDoor.mk_put];unfold wpList;rw[Proofs.YtglcebdfdehidaaGreatDoor.wanted_mk,show ∀(o:Array Oper) (σ:Nat→Value),gOk o n σ none=true from fun _ _=>rfl,if_pos rfl];left;unfold Oper.wp;rw[Proofs.YtglcebdfdehidaaGreatDoor.mk_eval,h2,Oper.upon_defer];exact h
theorem leaves_cc {P:Program} {ds:List Deferred} {n:Nat} {σ:Nat→Value} {w:World} {fn:Func} {R:Ending→World→Prop} {t u:Nat} {ty ty2 e e2:TypeId} {d d2:TypeDesc} {b b2:Nat} {c:Array Value} {fr fr2:Nat × Nat} {v1:Value}
  (hr:fn.results = #[.cell t ty,.cell u ty2]) (h0:sl n σ t = .pointer (some ⟨b,0,none⟩)) (ht:P.underlying ty=some d) (hd:Gl d=false) (hs:∀w,(sizeOf ty).run P w = .ok c.size w) (hb:w.heap[b]? = some (.cells c e fr))
  (h1:sl n σ u = .pointer (some ⟨b2,0,none⟩)) (ht2:P.underlying ty2=some d2) (hd2:Gl d2=true) (hb2:w.heap[b2]? = some (.cells #[v1] e2 fr2)) (h:R (.returned (.tuple #[.agg c,v1])) w):Leaves P fn (mk ds n σ).tmps R [] .returning w:=by
 have ha:(isAgg ty).run P w = .ok true w:=by cases d<;>simp_all [isAgg,run_underlying ht,Gl]
 refine⟨_,?_,h⟩
 have hl:=run_loadCells_list (P:=P) w ⟨b,0,none⟩ c.toList (fun j v hj=>by
  have hadd:(⟨b,0,none⟩:Addr).add j=⟨b,0+j,none⟩:=by unfold Addr.add;split<;>simp_all
  rw[hadd,Nat.zero_add];exact Er hb (by simpa using hj))
 simp only[loadCells] at hl;simp only[Array.length_toList] at hl;have hc:w.cell? ⟨b2,0,none⟩=some v1:=Er hb2 rfl;have e0:=G7 ds n σ t;have e1:=G7 ds n σ u;rw[Array.getD_eq_getD_getElem?] at e0 e1;simp only[results,hr];simp[e0,e1,h0,h1,asAddr,loadVar,loadCells,ha,hs,hl,Q0h ht2 hd2,load,Sem.run,hc,go_sem]
end D
end
theorem Q52:Ai prog 174:=Am func174
theorem Y2o {p q:Nat} {x0 x1 x2 x3 x4 y:Value} {w:World} (hp:w.heap[p]? = some (.cells #[x0,x1,x2,x3,x4] 86 (0,0))) (hq:w.heap[q]? = some (.cells #[y] 35 (0,0))) (hpq:p≠q) :
  CallsD prog 199 #[.pointer (some ⟨p,0,none⟩),.pointer (some ⟨q,0,none⟩)] (.panicking C0) w fun e u' w'=>e = .returned (.tuple #[])∧u' = .panicking [{ v:=.iface 246 (.agg #[]),recovered:=true }] ∧
   w'.heap[p]? = some (.cells #[.int .i64 0,S [],.int .i64 0,S [],.slice none 0 0] 86 (0,0))∧w'.heap[q]? = some (.cells #[.int .i64 50] 35 (0,0))∧∀B,B≤p→B≤q→Below B w w':=by
 unfold C0;have hpl:=Gb hp;have hql:=Gb hq;refine callsD_of_wpS func199 rfl fun c₀ cs hu=>?_;apply wpS_seq;apply wpS_region;simp[wpOpsS,go_sem,recoverD,hu,ntmps199,Exit.thenS];refine wpS_of_wp ?_;rw[show({ tmps := #[Value.pointer (some ⟨p,0,none⟩),Value.pointer (some ⟨q,0,none⟩)]++((Array.replicate 14 undef).setIfInBounds 3 (.iface 246 (.agg #[]))).setIfInBounds 0 (.iface 246 (.agg #[])),defers:=[] }:Act)=mk 16 (upd (upd (Fk [.pointer (some ⟨p,0,none⟩),.pointer (some ⟨q,0,none⟩)]) 5 (.iface 246 (.agg #[]))) 2 (.iface 246 (.agg #[]))) from by kernel_rfl];refine W_any (W_seq ?_);refine W_reg (Ah (v:=((.iface 246 (.agg #[])))) rfl rfl ?_);refine Eu (v:=.tuple #[.agg #[],.bool true]) rfl (by kernel_rfl) (Ah rfl rfl ?_);refine Ah (v:=(.agg #[])) rfl rfl (Ah (v:=(.bool true)) rfl rfl ?_);refine O7 (v:=(.agg #[])) rfl (fun _=>by kernel_rfl) (fun w1 n1=>?_);have e1:w1.heap[w.heap.size]? = some (.cells #[] 246 (0,0)):=n1.here;have z1:=n1.size;have p2:=e1;refine O5 (b:=w.heap.size) (o:=0) (c' := #[]) rfl rfl rfl (fun _=>by kernel_rfl) (by simp[Value.oneCell']) p2 (by simp) (fun w2 u2=>?_)
 have e2:w2.heap[w.heap.size]? = some (.cells #[] 246 (0,0)):=u2.here;have z2:=u2.size;refine Ah (v:=(.bool true)) rfl rfl ?_;refine A0 (W_seq ?_);refine W_reg (Ah (v:=(.bool true)) rfl rfl ?_);refine A0 (M8 rfl ?_);refine W_reg (Eu (v:=(.agg #[(.int .i64 0),(S []),(.int .i64 0),(S []),(.slice none 0 0)])) rfl (by kernel_rfl) ?_)
 have p3:=(u2.keep (n1.keep hp) (Qj (n1.keep hp) p2 (by decide)))
 refine O5 (b:=p) (o:=0) (c' := #[(.int .i64 0),(S []),(.int .i64 0),(S []),(.slice none 0 0)]) rfl rfl rfl (fun _=>by kernel_rfl) (by simp[Value.oneCell']) p3 (by simp) (fun w3 u3=>?_);have e3:w3.heap[p]? = some (.cells #[(.int .i64 0),(S []),(.int .i64 0),(S []),(.slice none 0 0)] 86 (0,0)):=u3.here;have z3:=u3.size
 have p4:=(u3.keep (u2.keep (n1.keep hq) (Qj (n1.keep hq) p2 (by decide))) (Qj (u2.keep (n1.keep hq) (Qj (n1.keep hq) p2 (by decide))) p3 (by decide)))
 refine O6 (b:=q) (o:=0) (v:=(.int .i64 50)) rfl rfl rfl (fun _=>by kernel_rfl) rfl p4 (by simp) (fun w4 u4=>?_);have e4:w4.heap[q]? = some (.cells #[(.int .i64 50)] 35 (0,0)):=u4.here;have z4:=u4.size;refine A0 ?_;refine⟨rfl,.panicking [{ v:=.iface 246 (.agg #[]),recovered:=true }],rfl,_,results_none rfl _ _ _,rfl,rfl,(u4.keep e3 (Qj e3 p4 (by decide))),e4,fun B hB1 hB2=>(u4.below (u3.below (u2.below (n1.below (Below.refl B w) (by omega)) (by omega)) (by omega)) (by omega))⟩
theorem Y2p (p q:Nat) (w:World):CallsD prog 199 #[.pointer (some ⟨p,0,none⟩),.pointer (some ⟨q,0,none⟩)] .returning w fun e u' w'=>e = .returned (.tuple #[])∧u' = .returning∧Below w.heap.size w w':=by
 refine callsD_of_wpS func199 rfl fun c₀ cs hu=>?_;apply wpS_seq;apply wpS_region;simp[wpOpsS,go_sem,recoverD,hu,ntmps199,Exit.thenS];refine wpS_of_wp ?_;rw[show({ tmps := #[Value.pointer (some ⟨p,0,none⟩),Value.pointer (some ⟨q,0,none⟩)]++((Array.replicate 14 undef).setIfInBounds 3 .nilIface).setIfInBounds 0 .nilIface,defers:=[] }:Act)=mk 16 (upd (upd (Fk [.pointer (some ⟨p,0,none⟩),.pointer (some ⟨q,0,none⟩)]) 5 .nilIface) 2 .nilIface) from by kernel_rfl];refine W_any (W_seq ?_);refine W_reg (Ah (v:=(.nilIface)) rfl rfl ?_);refine Eu (v:=.tuple #[.agg #[],.bool false]) rfl (by kernel_rfl) (Ah rfl rfl ?_);refine Ah (v:=(.agg #[])) rfl rfl (Ah (v:=(.bool false)) rfl rfl ?_);refine O7 (v:=(.agg #[])) rfl (fun _=>by kernel_rfl) (fun w1 n1=>?_);have e1:w1.heap[w.heap.size]? = some (.cells #[] 246 (0,0)):=n1.here;have z1:=n1.size;have p2:=e1;refine O5 (b:=w.heap.size) (o:=0) (c' := #[]) rfl rfl rfl (fun _=>by kernel_rfl) (by simp[Value.oneCell']) p2 (by simp) (fun w2 u2=>?_);have e2:w2.heap[w.heap.size]? = some (.cells #[] 246 (0,0)):=u2.here;have z2:=u2.size;refine Ah (v:=(.bool false)) rfl rfl (A0 ?_);refine W_seq (W_reg ?_)
 refine Ah (v:=(.bool false)) rfl rfl (A0 ?_);refine Kz rfl (W_seq ?_);refine W_reg (Ah (v:=(.nilIface)) rfl rfl ?_);refine Eu (v:=.bool false) rfl (by kernel_rfl) (A0 ?_);refine Kz rfl (W_skip ?_);refine⟨rfl,.returning,by cases c₀;simp_all,_,results_none rfl _ _ _,rfl,rfl,(u2.below (n1.below (Below.refl w.heap.size w) (Below.refl w.heap.size w).size) (by omega))⟩
theorem Y13 {w:World} {k op:Int} {nm ev:List UInt8} {args:List DepT} {sv:Value} {css:List (List Value)} (h1:RowIs w sv args.length 5 css.flatten) (h2:ArgsC w args css):DepC w (.mk k nm op ev args) [.int .i64 k,S nm,.int .i64 op,S ev,sv]:=by
 unfold DepC;exact⟨sv,css,rfl,h1,h2⟩
def Bld (w:World) (b:Nat) (l:List UInt8):Prop :=
 ∃p v,(p = .pointer none∨p = .pointer (some ⟨b,0,none⟩))∧w.heap[b]? = some (.cells #[p,v] 212 (0,0))∧w.ownsRow b 5 1 v l.length (Lib.byteCells l)
def Kept (b:Nat) (w w':World):Prop:=Below b w w'∧Lib.OthersKept 5 (some b) w w'
section
variable {w w' w0 : World} {b k : Nat} {l : List UInt8} {o : Obj}
theorem Kept.refl (b:Nat) (w:World):Kept b w w:=⟨Below.refl _ _,Lib.OthersKept.refl _ _ _⟩
theorem Kept.trans (h:Kept b w0 w) (k:Kept b w w'):Kept b w0 w':=⟨h.1.trans k.1,h.2.trans k.2⟩
theorem Kept.size (h:Kept b w w'):w.heap.size≤w'.heap.size:=h.1.size
theorem Ed (h:Kept b w0 w) (e:Below w.heap.size w w') (hb:b≤w.heap.size):Kept b w0 w' :=
 ⟨h.1.trans (e.mono hb),fun i o hi hne ho=>by
  have h1:=h.2 i o hi hne ho
  rw[e.block i (Gb h1)];exact h1⟩
theorem Tf (h:Kept b w0 w) (g:w.grownBy w' (some b)) (hb:b≤w.heap.size):Kept b w0 w' :=
 ⟨h.1.grown g hb (fun k hk=>by cases hk;exact Nat.le_refl _),fun i o hi hne ho=>by
  have h1:=h.2 i o hi hne ho
  rw[g.block i (Gb h1) hne];exact h1⟩
theorem Te {v:Value} {m:Nat} {xs:List Value} (h:Kept b w0 w) (ow:w.ownsRow b 5 1 v m xs) (g:w.grownBy w' v.ownBlock) (hb:b≤w.heap.size):Kept b w0 w' :=
 ⟨h.1.grown g hb (fun k hk=>(ow.lt k hk).1),h.2.grown g (fun i hi=>by
  rcases ow.2 with⟨rfl,_⟩|⟨g',cap,cur,rfl,_,hg,_⟩
  ·simp[Value.ownBlock] at hi
  ·simp only[Value.ownBlock,Option.some.injEq] at hi
   subst hi;exact⟨_,_,hg⟩)⟩
theorem Oh (h:Kept b w0 w) (u:Upd w w' b o):Kept b w0 w' :=
 ⟨⟨u.os.trans h.1.os,u.tape.trans h.1.tape,u.output.trans h.1.output,by rw[u.size];exact h.1.size,fun k hk=>(u.block k (by omega)).trans (h.1.block k hk)⟩,fun i o hi hne ho=>by
  have h1:=h.2 i o hi hne ho
  rw[u.block i (fun e=>hne (by rw[e]))];exact h1⟩
theorem Og (h:Kept b w0 w) (u:Upd w w' k o) (hk:w0.heap.size≤k∧b≤k):Kept b w0 w' :=
 ⟨⟨u.os.trans h.1.os,u.tape.trans h.1.tape,u.output.trans h.1.output,by rw[u.size];exact h.1.size,fun j hj=>(u.block j (by omega)).trans (h.1.block j hj)⟩,fun i o hi hne ho=>by
  have h1:=h.2 i o hi hne ho;have:=Gb hi
  rw[u.block i (by omega)];exact h1⟩
theorem D5 {c:Array Value} {T:TypeId} {fr:Nat × Nat} (kp:Kept b w w') (h:w.heap[k]? = some (.cells c T fr)) (hT:T≠5) (hne:k≠b):w'.heap[k]? = some (.cells c T fr) :=
 kp.2 k _ h (fun e=>hne (Option.some.inj e)) (fun c' fz e=>hT (by cases e;rfl))
theorem F9 {B:Nat} (H:Below B w0 w) (k:Kept b w w') (hB:B≤b):Below B w0 w':=H.trans (k.1.mono hB)
theorem Bld.lt (h:Bld w b l):b < w.heap.size:=by obtain⟨p,v,_,h1,_⟩:=h;exact Gb h1
theorem Bld.ext (h:Bld w b l) (e:Below w.heap.size w w'):Bld w' b l:=by
 obtain⟨p,v,hp,h1,h2⟩:=h;exact⟨p,v,hp,D8 e h1,Y27 e h2⟩
theorem Bld.kit (h:Bld w b l):Lib.IsBuilderF 212 5 b b (Lib.byteCells l) w:=by
 obtain⟨p,v,hp,h1,h2⟩:=h;have hne:v.ownBlock≠some b:=N3 h2 h1 (by decide)
 have hl:l.length=(Lib.byteCells l).length:=by rw[Lib.byteCells_length]
 rw[hl] at h2;rcases hp with rfl|rfl
 ·exact .inl (Lib.BuilderAtF.of ⟨Nat.le_refl _,v,h1,h2,hne⟩)
 ·exact .inr (Lib.BuilderAtF.of ⟨Nat.le_refl _,v,h1,h2,hne⟩)
theorem Bld.fresh (h:w.heap[b]? = some (.cells #[.pointer none,.slice none 0 0] 212 (0,0))):Bld w b [] :=
 ⟨_,_,.inl rfl,h,⟨by simp[Lib.byteCells],.inl ⟨rfl,rfl⟩⟩⟩
end
section
variable {P : Program} {n : Nat} {Q : Exit → (Nat → Value) → World → Prop} {σ : Nat → Value} {w : World}
variable {ops : Array Oper} {rest : List Oper} {dst : Option Tmp} {ty : TypeId} {ps : String} {af : Array Edge} {g : Option (Nat × Bool)}
theorem Y4w {t u e:TypeId} {x y:Operand} {v:Value} {base m:Nat} {xs:List Value} {l:List UInt8}
  (hg:gOk ops n σ g=true) (hx:ev n σ x=v) (hy:ev n σ y=S l) (ht:P.underlying t=some (.slice e)) (hu:P.underlying u=some .string)
  (hi:(P.info? e).map (fun i=>(i.zero,i.size,i.bytes))=some (some (.int .u8 0),1,1)) (hown:w.ownsRow base e 1 v m xs)
  (hb:m+l.length≤140737488355328) (hbase:base≤w.heap.size)
  (next:∀v' w',w'.ownsRow base e 1 v' (m+l.length) (xs++Lib.byteCells l)→w.grownBy w' v.ownBlock→WO P n ops rest Q (Bn σ dst v') w') :
  WO P n ops (⟨dst,.call { callee:=.builtin .append,args := #[x,y],argTypes := #[t,u] },ty,ps,af,g⟩::rest) Q σ w:=by
 obtain⟨i,hi,h'⟩:=Option.map_eq_some_iff.1 hi;simp only[Prod.mk.injEq] at h';obtain⟨hz,hsize,hby⟩:=h'
 have hs:(⟨l.toArray⟩:ByteArray).size=l.length:=by simp[ByteArray.size]
 obtain⟨v',w',hr,h2,h3,_⟩:=Lib.run_append_own_string (P:=P) w base t u ty e i ht hu hi hz hsize hby v m xs hown ⟨l.toArray⟩ (by unfold maxLen;omega) (by omega) hbase;rw[hs,Lib.strCells_toArray] at h2;refine B8 hg ?_ (next v' w' h2 h3);simp only[execOp,resolve,invoke,builtin,Sem.run_bind,Sem.run_pure,Result.andThen_ok,List.map_toArray,List.map_cons,List.map_nil,hx,hy,S,hr]
theorem Y4m {t u te:TypeId} {x y:Operand} {j:TypeInfo} {a:Addr} (hg:gOk ops n σ g=true) (hx:ev n σ x = .pointer (some a)) (hy:ev n σ y = .pointer (some a))
  (hp:P.underlying t=some (.pointer te)) (hte:P.info? te=some j) (next:WO P n ops rest Q (Bn σ dst (.bool false)) w) :
  WO P n ops (⟨dst,.binOp .neq t x y u,ty,ps,af,g⟩::rest) Q σ w:=by
 refine B8 hg ?_ next;have h:=Lib.run_neq_ptr_same (P:=P) w a hp hte;simp[execOp,hx,hy,h,go_sem]
theorem Y4j {src d t e:TypeId} {x:Operand} {a:Addr} {j:TypeInfo} {cells:Nat} (hg:gOk ops n σ g=true) (hx:ev n σ x = .pointer (some a)) (hs:P.underlying src=some (.pointer t)) (hd:P.underlying d=some .unsafePointer)
  (ht:P.info? t=some j) (hj:j.size≠0) (hsh:w.shape? a.block=some (e,cells)) (hoff:a.off < cells) (next:WO P n ops rest Q (Bn σ dst (.pointer (some a))) w) :
  WO P n ops (⟨dst,.convert src d x,ty,ps,af,g⟩::rest) Q σ w:=by
 refine B8 hg ?_ next;have h:=Lib.run_to_unsafe (P:=P) w a hs hd ht hj hsh hoff;simp[execOp,hx,h,go_sem]
theorem Y4t {src d u e:TypeId} {x:Operand} {a:Addr} {j:TypeInfo} {cells:Nat} (hg:gOk ops n σ g=true) (hx:ev n σ x = .pointer (some a)) (hs:P.underlying src=some .unsafePointer) (hd:P.underlying d=some (.pointer u))
  (hu:P.info? u=some j) (hsh:w.shape? a.block=some (e,cells)) (hlies:liesAt P P.depth e (cells / P.cellsOf e) a.off u 1=true) (next:WO P n ops rest Q (Bn σ dst (.pointer (some a))) w) :
  WO P n ops (⟨dst,.convert src d x,ty,ps,af,g⟩::rest) Q σ w:=by
 refine B8 hg ?_ next;have h:=Lib.run_from_unsafe (P:=P) w a hs hd hu hsh hlies;simp[execOp,hx,h,go_sem]
theorem Y4u {f:FuncId} {x:Operand} {v r:Value} {ts:Array TypeId} (hg:gOk ops n σ g=true) (hx:ev n σ x=v)
  (h:(callFunc f #[v]).run P w = .ok (.value r) w) (next:WO P n ops rest Q (Bn σ dst r) w) :
  WO P n ops (⟨dst,.call { callee:=.value (.func f),args := #[x],argTypes:=ts },ty,ps,af,g⟩::rest) Q σ w:=by
 refine B8 hg ?_ next
 have e:(#[x]:Array Operand).map (ev n σ) = #[v]:=by simp[hx]
 simp only[execOp,resolve,ev,e];simp[Deferred.ofValue,invoke,go_sem,h]
end
def WS (P:Program) (n:Nat) (ops:Array Oper) (Q:(Nat→Value)→World→Prop) (S0:World→Prop) (fuel:Nat) (listed:Array Bool) (σ:Nat→Value) (w:World):Prop :=
 wpAnyH P .any ops (fun e a w=>e = .normal∧∃σ,a=mk n σ∧Q σ w) S0 fuel listed (mk n σ) w
section
variable {P : Program} {n : Nat} {σ : Nat → Value} {w : World}
theorem Q8f {S0:World→Prop} {Q:Exit→(Nat→Value)→World→Prop} {id:Nat} {l:List Oper} (hm:P.follows .mixedOrders=true)
  (h:∀w',Drew w w'→WS P n l.toArray (Q .normal) S0 l.length (Array.replicate l.length false) σ w'):W P n (.region id l.toArray true) Q σ w:=by
 unfold W;refine wp_mono (wp_region_any hm (wpAny_of_held _ _ _ _ (h _ ⟨1,rfl⟩))) ?_;rintro e a w ⟨rfl,σ',ha,hq⟩;exact⟨σ',ha,hq⟩
variable {ops : Array Oper} {Q : (Nat → Value) → World → Prop} {fuel : Nat} {listed : Array Bool} {S0 : World → Prop}
theorem Uk (hS:S0 w) (i:Nat) {o:Oper} {v:Value} (hi:ops[i]? = some o) (hs:Region.noSelect ops=true) (hf:Region.free .any ops listed i=true) (hr:(Region.ready .any ops listed).contains i=true)
  (hg:gOk ops n σ o.guard=true) (h:∀w',S0 w'→(execOp (ev n σ) o).run P w' = .ok (.value v) w') (next:WS P n ops Q S0 fuel (listed.setIfInBounds i true) (Bn σ o.dst v) w):WS P n ops Q S0 (fuel+1) listed σ w:=by
 unfold WS;refine wpAnyH_take hi hs hf hr (fun c a w h=>by cases h.1) (.inl ⟨by rw[wanted_mk];exact hg,fun w' hw'=>by rw[mk_eval];exact h w' hw'⟩) hS ?_;rw[mk_put];exact next
theorem Lw (hS:S0 w) (i:Nat) {o:Oper} {v:Value} (hi:ops[i]? = some o) (hs:Region.noSelect ops=true) (hf:Region.free .any ops listed i=true) (hr:(Region.ready .any ops listed).contains i=true)
  (hg:gOk ops n σ o.guard=true) (h:∀w,(execOp (ev n σ) o).run P w = .ok (.value v) w) (next:WS P n ops Q S0 fuel (listed.setIfInBounds i true) (Bn σ o.dst v) w):WS P n ops Q S0 (fuel+1) listed σ w :=
 Uk hS i hi hs hf hr hg (fun w' _=>h w') next
theorem Q8g (hr:Region.ready .any ops listed=[]) (h:Q σ w):WS P n ops Q S0 fuel listed σ w:=by
 unfold WS;exact wpAnyH_done hr ⟨rfl,σ,rfl,h⟩ fuel
theorem Nb (i:Nat) {o:Oper} (hr:Region.ready .any ops listed=[i]) (hi:ops[i]? = some o)
  (h:WO P n ops [o] (fun e σ' w'=>e = .normal∧S0 w'∧WS P n ops Q S0 fuel (listed.setIfInBounds i true) σ' w') σ w):WS P n ops Q S0 (fuel+1) listed σ w:=by
 unfold WS;refine wpAnyH_all hr (by simp) fun j hj=>?_
 obtain rfl:j=i:=by simpa using hj
 unfold WO wpList at h;unfold wpOp;simp only[hi]
 have ho:¬LetsOut (lift n fun e σ' w'=>e = .normal∧S0 w'∧WS P n ops Q S0 fuel (listed.setIfInBounds j true) σ' w'):=by
  rintro⟨a,w,σ',_,h,_⟩;cases h
 have hk:∀a w',wpList P ops (lift n fun e σ' w'=>e = .normal∧S0 w'∧WS P n ops Q S0 fuel (listed.setIfInBounds j true) σ' w') [] a w' →
   (S0 w'∧wpAnyH P .any ops (fun e a w=>e = .normal∧∃σ,a=mk n σ∧Q σ w) S0 fuel (listed.setIfInBounds j true) a w'):=by
  rintro a w' ⟨σ',rfl,_,hb,hx⟩;exact⟨hb,hx⟩
 split at h
 ·rename_i hw;rw[if_pos hw];rcases h with h|⟨_,h⟩
  ·exact .inl (Ro hk (fun c a w hc=>by obtain⟨_,_,hc,_⟩:=hc;cases hc) ho h)
  ·exact absurd h ho
 ·rename_i hw;rw[if_neg hw];exact hk _ _ h
end
theorem Q5u:Ai prog 195:=Am func195
theorem T5:Ai prog 164:=Am func164
theorem Q5q:Ai prog 223:=Am func223
theorem Y0q:Ai prog 165:=Am func165
theorem Z7 {w:World} {b:Nat} {c:Array Value} {T:TypeId} (h:w.heap[b]? = some (.cells c T (0,0))):w.shape? b=some (T,c.size):=by simp[World.shape?,h]
theorem X4l (x:Value) (w:World):(callFunc 218 #[x]).run prog w = .ok (.value x) w:=by
 rw[run_callFunc_extern func218 (by kernel_rfl) (by kernel_rfl) (by kernel_rfl) (e:=Extern.AbiNoEscape.same) (by kernel_rfl),Lib.run_noEscape];rfl
theorem Q33:∃j,prog.info? 212=some j∧j.size≠0:=by
 have h:(prog.info? 212).map (fun j=>j.size)=some 2:=by kernel_rfl
 obtain⟨j,hj,hs⟩:=Option.map_eq_some_iff.1 h;exact⟨j,hj,by omega⟩
theorem Y2m (b:Nat) (u:Value) (w:World) (hb:w.heap[b]? = some (.cells #[.pointer none,u] 212 (0,0))) :
  Calls prog 195 #[(.pointer (some ⟨b,0,none⟩))] w (Ret fun v w'=>w'.heap[b]? = some (.cells #[.pointer (some ⟨b,0,none⟩),u] 212 (0,0))∧w.grownBy w' (some b)):=by
 obtain⟨j,hj,hjs⟩:=Q33;refine D1 func195 rfl ntmps195 (W_seq ?_);refine W_reg (Ah (v:=(.pointer (some ⟨b,0,none⟩))) rfl rfl ?_);refine Ah (v:=(.pointer (some ⟨b,0,none⟩))) rfl rfl (Eu (v:=(.pointer (some ⟨b,0,none⟩))) rfl (by kernel_rfl) ?_);refine He (a:=⟨b,0,none⟩) (v:=(.pointer none)) rfl rfl underlying209 rfl (Er hb rfl) (Q8k (a:=none) rfl rfl rfl underlying209 ?_);refine A0 (M8 rfl ?_);refine W_reg (Ah (v:=(.pointer (some ⟨b,0,none⟩))) rfl rfl ?_);refine Ah (v:=(.pointer (some ⟨b,0,none⟩))) rfl rfl (Y4j (a:=⟨b,0,none⟩) rfl rfl underlying209 underlying262 hj hjs (Z7 hb) (by simp) ?_);refine Y4u (v:=.pointer (some ⟨b,0,none⟩)) rfl rfl (X4l _ _) (Y4t (a:=⟨b,0,none⟩) rfl rfl underlying262 underlying209 hj (Z7 hb) (by kernel_rfl) ?_);refine Ah (v:=(.pointer (some ⟨b,0,none⟩))) rfl rfl (Eu (v:=(.pointer (some ⟨b,0,none⟩))) rfl (by kernel_rfl) ?_);have p1:=hb;refine O6 (b:=b) (o:=0) (v:=(.pointer (some ⟨b,0,none⟩))) rfl rfl rfl (fun _=>by kernel_rfl) rfl p1 (by simp) (fun w1 u1=>?_);have e1:w1.heap[b]? = some (.cells #[(.pointer (some ⟨b,0,none⟩)),u] 212 (0,0)):=u1.here
 have z1:=u1.size;refine A0 (Oz (fn:=Tryz.f195) (by first|exact .inl rfl|exact .inr rfl) rfl ?_);exact⟨e1,(Q4j (W2 w _) u1 (by first|(left;omega)|(right;rfl)))⟩
theorem Y2j (b:Nat) (u:Value) (w:World) (hb:w.heap[b]? = some (.cells #[.pointer (some ⟨b,0,none⟩),u] 212 (0,0))) :
  Calls prog 195 #[(.pointer (some ⟨b,0,none⟩))] w (Ret fun v w'=>w'.heap[b]? = some (.cells #[.pointer (some ⟨b,0,none⟩),u] 212 (0,0))∧w.grownBy w' (some b)):=by
 obtain⟨j,hj,hjs⟩:=Q33;refine D1 func195 rfl ntmps195 (W_seq ?_);refine W_reg (Ah (v:=(.pointer (some ⟨b,0,none⟩))) rfl rfl ?_);refine Ah (v:=(.pointer (some ⟨b,0,none⟩))) rfl rfl (Eu (v:=(.pointer (some ⟨b,0,none⟩))) rfl (by kernel_rfl) ?_);refine He (a:=⟨b,0,none⟩) (v:=(.pointer (some ⟨b,0,none⟩))) rfl rfl underlying209 rfl (Er hb rfl) (Q8k (a:=(some ⟨b,0,none⟩)) rfl rfl rfl underlying209 ?_);refine A0 (Kz rfl ?_);refine W_seq (W_reg ?_);refine Ah (v:=(.pointer (some ⟨b,0,none⟩))) rfl rfl (Ah (v:=(.pointer (some ⟨b,0,none⟩))) rfl rfl ?_);refine Eu (v:=(.pointer (some ⟨b,0,none⟩))) rfl (by kernel_rfl) (He (a:=⟨b,0,none⟩) (v:=(.pointer (some ⟨b,0,none⟩))) rfl rfl underlying209 rfl (Er hb rfl) ?_);refine Ah (v:=(.pointer (some ⟨b,0,none⟩))) rfl rfl (Y4m (a:=⟨b,0,none⟩) rfl rfl rfl underlying209 hj ?_);refine A0 (Kz rfl ?_);refine W_skip (Oz (fn:=Tryz.f195) (by first|exact .inl rfl|exact .inr rfl) rfl ?_);exact⟨hb,(W2 w _)⟩
theorem Q6q (b:Nat) (p u:Value) (w:World) (hp:p = .pointer none∨p = .pointer (some ⟨b,0,none⟩)) (hb:w.heap[b]? = some (.cells #[p,u] 212 (0,0))):Calls prog 195 #[.pointer (some ⟨b,0,none⟩)] w (Ret fun v w'=>w'.heap[b]? = some (.cells #[.pointer (some ⟨b,0,none⟩),u] 212 (0,0))∧w.grownBy w' (some b)):=by
 rcases hp with rfl|rfl
 ·exact Y2m b u w hb
 ·exact Y2j b u w hb
theorem Q9h (b:Nat) (p u:Value) (l s:List UInt8) (w:World) (hp:p = .pointer none∨p = .pointer (some ⟨b,0,none⟩)) (hb:w.heap[b]? = some (.cells #[p,u] 212 (0,0))) (ho:w.ownsRow b 5 1 u l.length (Lib.byteCells l)) (hl:l.length+s.length≤140737488355328) :
  Calls prog 164 #[(.pointer (some ⟨b,0,none⟩)),(S s)] w (Ret fun v w'=>Bld w' b (l++s)∧Kept b w w'):=by
 have hbl:=Gb hb;have hne2:u.ownBlock=none∨u.ownBlock≠some b:=.inr (N3 ho hb (by decide));refine D1 func164 rfl ntmps164 (W_seq ?_);refine W_reg (Ah (v:=(.int .i64 0)) rfl rfl ?_);refine Ah (v:=(.nilIface)) rfl rfl (A0 ?_);refine W_seq (W_reg ?_);refine Ah (v:=(.pointer (some ⟨b,0,none⟩))) rfl rfl (Cv rfl (by exact Q5u) (Q6q b p u _ hp hb) ?_);rintro _ wc ⟨hc1,hc2⟩;have zc:=hc2.size;refine A0 ?_;refine W_seq (W_reg ?_);refine Ah (v:=(.pointer (some ⟨b,0,none⟩))) rfl rfl (Ah (v:=(.pointer (some ⟨b,0,none⟩))) rfl rfl ?_);refine Ah (v:=(.pointer (some ⟨b,0,none⟩))) rfl rfl (Eu (v:=(.pointer (some ⟨b,1,none⟩))) rfl (by kernel_rfl) ?_);refine He (a:=⟨b,1,none⟩) (v:=u) rfl rfl underlying210 rfl (Er hc1 rfl) (Ah (v:=(S s)) rfl rfl ?_)
 have o1a:=(World.ownsRow.kept ho hc2 (by first|assumption|(right;intro e;have:=(ho.lt _ e).1;omega)|simp_all))
 refine Y4w (v:=u) (base:=b) (l:=s) rfl rfl rfl underlying210 underlying9 (by kernel_rfl) o1a (by omega) (by omega) (fun a1 w1 o1 g1=>?_);have z1:=g1.size;refine Ah (v:=(.pointer (some ⟨b,0,none⟩))) rfl rfl (Eu (v:=(.pointer (some ⟨b,1,none⟩))) rfl (by kernel_rfl) ?_)
 have p2:=(Q4k g1 hc1 (Q61 o1a hc1 (by decide)))
 refine O6 (b:=b) (o:=1) (v:=a1) rfl rfl rfl (fun _=>by kernel_rfl) (Q2b o1) p2 (by simp) (fun w2 u2=>?_);have e2:w2.heap[b]? = some (.cells #[(.pointer (some ⟨b,0,none⟩)),a1] 212 (0,0)):=u2.here;have z2:=u2.size;refine A0 ?_;refine W_seq (W_reg ?_);refine Ah (v:=(S s)) rfl rfl (J1 (l:=s) rfl rfl underlying9 ?_);refine Ah (v:=(.int .i64 ((s.length:Int)))) rfl rfl (Ah (v:=(.nilIface)) rfl rfl ?_);refine A0 (W_ret ?_);refine X9 rfl (v0:=(.int .i64 ((s.length:Int)))) (v1:=(.nilIface)) rfl rfl ?_;exact⟨⟨_,_,.inr rfl,e2,by rw[Lib.byteCells_append,List.length_append];exact(u2.owns o1 (N3 o1 p2 (by decide)))⟩,(by first|exact Oh (Te (Tf (Kept.refl b w) hc2 (by omega)) o1a g1 (by omega)) u2|exact Og (Te (Tf (Kept.refl b w) hc2 (by omega)) o1a g1 (by omega)) u2 (by omega))⟩
theorem Q9i (b:Nat) (p u:Value) (l:List UInt8) (c:UInt8) (w:World) (hp:p = .pointer none∨p = .pointer (some ⟨b,0,none⟩)) (hb:w.heap[b]? = some (.cells #[p,u] 212 (0,0))) (ho:w.ownsRow b 5 1 u l.length (Lib.byteCells l)) (hl:l.length+1≤140737488355328) :
  Calls prog 223 #[(.pointer (some ⟨b,0,none⟩)),(.int .u8 ((c.toNat:Int)))] w (Ret fun v w'=>Bld w' b (l++[c])∧Kept b w w'):=by
 have hbl:=Gb hb;have hne2:u.ownBlock=none∨u.ownBlock≠some b:=.inr (N3 ho hb (by decide));refine D1 func223 rfl ntmps223 ?_;refine W_seq (W_reg ?_);refine Ah (v:=(.nilIface)) rfl rfl (A0 ?_);refine W_seq (W_reg ?_);refine Ah (v:=(.pointer (some ⟨b,0,none⟩))) rfl rfl (Cv rfl (by exact Q5u) (Q6q b p u _ hp hb) ?_);rintro _ wc ⟨hc1,hc2⟩;have zc:=hc2.size;refine A0 ?_;refine W_seq (W_reg ?_);refine Ah (v:=(.pointer (some ⟨b,0,none⟩))) rfl rfl (Ah (v:=(.pointer (some ⟨b,0,none⟩))) rfl rfl ?_);refine Ah (v:=(.pointer (some ⟨b,0,none⟩))) rfl rfl (Eu (v:=(.pointer (some ⟨b,1,none⟩))) rfl (by kernel_rfl) ?_);refine He (a:=⟨b,1,none⟩) (v:=u) rfl rfl underlying210 rfl (Er hc1 rfl) (Ah (v:=(.int .u8 ((c.toNat:Int)))) rfl rfl ?_);refine Yo (k:=1) (cs := #[(.int .u8 ((c.toNat:Int)))]) (e:=5) rfl (fun _=>by kernel_rfl) (fun w1 n1=>?_);have e1:w1.heap[wc.heap.size]? = some (.cells #[(.int .u8 ((c.toNat:Int)))] 5 (0,0)):=n1.here;have z1:=n1.size;have o1:=n1.owned (base:=b) (size:=1) (k:=1) (by omega) (by omega) rfl
 have o2a:=(n1.owns (World.ownsRow.kept ho hc2 (by first|assumption|(right;intro e;have:=(ho.lt _ e).1;omega)|simp_all)))
 refine Y4x (v:=u) (sz:=1) (base:=b) (bytes:=1) rfl rfl rfl underlying210 (by kernel_rfl) (by decide) o2a rfl e1 (by simp[Value.oneCell']) (by omega) (by omega) (by omega) (fun a2 w2 o2 g2 y2=>?_);have z2:=g2.size;refine Ah (v:=(.pointer (some ⟨b,0,none⟩))) rfl rfl (Eu (v:=(.pointer (some ⟨b,1,none⟩))) rfl (by kernel_rfl) ?_)
 have p3:=(Q4k g2 (n1.keep hc1) (Q61 o2a (n1.keep hc1) (by decide)))
 refine O6 (b:=b) (o:=1) (v:=a2) rfl rfl rfl (fun _=>by kernel_rfl) (Q2b o2) p3 (by simp) (fun w3 u3=>?_);have e3:w3.heap[b]? = some (.cells #[(.pointer (some ⟨b,0,none⟩)),a2] 212 (0,0)):=u3.here;have z3:=u3.size;refine A0 (W_seq ?_);refine W_reg (Ah (v:=(.nilIface)) rfl rfl ?_);refine A0 (W_ret ?_);refine E9 rfl (v0:=(.nilIface)) rfl ?_;exact⟨⟨_,_,.inr rfl,e3,by rw[Lib.byteCells_append,List.length_append];exact(u3.owns o2 (N3 o2 p3 (by decide)))⟩,(by first|exact Oh (Te (Ed (Tf (Kept.refl b w) hc2 (by omega)) n1.ext (by omega)) o2a g2 (by omega)) u3|exact Og (Te (Ed (Tf (Kept.refl b w) hc2 (by omega)) n1.ext (by omega)) o2a g2 (by omega)) u3 (by omega))⟩
theorem Rn {b:Nat} {l:List UInt8} {w:World} (s:List UInt8) (h:Bld w b l) (hl:l.length+s.length≤140737488355328):Calls prog 164 #[.pointer (some ⟨b,0,none⟩),S s] w (Ret fun v w'=>Bld w' b (l++s)∧Kept b w w'):=by
 obtain⟨p,u,hp,hb,ho⟩:=h;exact Q9h b p u l s w hp hb ho hl
theorem Zc {b:Nat} {l:List UInt8} {w:World} (c:UInt8) (h:Bld w b l) (hl:l.length+1≤140737488355328):Calls prog 223 #[.pointer (some ⟨b,0,none⟩),.int .u8 (c.toNat:Int)] w (Ret fun v w'=>Bld w' b (l++[c])∧Kept b w w'):=by
 obtain⟨p,u,hp,hb,ho⟩:=h;exact Q9i b p u l c w hp hb ho hl
theorem X0s {b:Nat} {l:List UInt8} {w:World} (h:Bld w b l):Calls prog 165 #[.pointer (some ⟨b,0,none⟩)] w (Ret fun v w'=>v=S l∧Kept b w w') :=
 (Tryz.Builder_String_any_k b b l w h.kit (Nat.le_of_lt h.lt)).mono fun _ _ h=>⟨_,h.1,rfl,h.2.2⟩
theorem Qy:Ai prog 203:=Am func203
theorem Q51:Ai prog 175:=Am func175
def L3 (k:Int) (i:Nat):List UInt8:=if k=4∧i=2 then [101,108,115,101] else nth Bv k.toNat
def Hh (k:Int) (i:Nat):List UInt8:=if 0 < i then [32]++L3 k i++[32] else []
mutual
def Fp:DepT→List UInt8
 |.mk k nm op ev args=>if k=1 then (if 0 < op then nm++([32]++nth signsL op.toNat++[32]++ev) else nm) else [40]++joinN k 0 args++[41]
def joinN (k:Int):Nat→List DepT→List UInt8
 |_,[]=>[]
 |i,a::r=>Hh k i++Fp a++joinN k (i+1) r
end
theorem Rp (j:Nat):(nth Bv j).length≤7:=by
 match j with
 |0|1|2|3|4|5|6=>decide
 |j+7=>show([]:List UInt8).length≤7;decide
theorem Q0b (k:Int) (i:Nat):(Hh k i).length≤9:=by
 unfold Hh L3;split
 ·split
  ·decide
  ·have:=Rp k.toNat;simp only[List.length_append,List.length_cons,List.length_nil];omega
 ·simp
theorem Vl (j:Nat):(nth signsL j).length≤3:=by
 match j with
 |0|1|2|3|4|5|6|7=>decide
 |j+8=>show([]:List UInt8).length≤3;decide
mutual
theorem X0j:∀d:DepT,(Fp d).length+9≤16*d.size
 |.mk k nm op ev args=>by
  unfold Fp DepT.size;have h1:=joinN_len k 0 args;have h2:=Vl op.toNat;split
  ·split
   ·simp only[List.length_append,List.length_cons,List.length_nil];omega
   ·omega
  ·simp only[List.length_append,List.length_cons,List.length_nil];omega
theorem joinN_len:∀(k:Int) (i:Nat) (l:List DepT),(joinN k i l).length≤16*argsSize l
 |k,i,[]=>by simp[joinN]
 |k,i,a::r=>by
  unfold joinN argsSize;have h1:=X0j a;have h2:=joinN_len k (i+1) r;have h3:=Q0b k i;simp only[List.length_append];omega
end
theorem Q3y (k:Int):∀(j:Nat) (l:List DepT) (a:DepT),joinN k j (l++[a])=joinN k j l++(Hh k (j+l.length)++Fp a)
 |j,[],a=>by simp[joinN]
 |j,x::r,a=>by
  rw[List.cons_append,joinN,Q3y k (j+1) r a,joinN];simp only[List.length_cons,List.append_assoc,show j+1+r.length=j+(r.length+1) by omega]
theorem X0l {l:List DepT} {i:Nat} (h:i < l.length):l.take (i+1)=l.take i++[nth l i]:=by
 rw[List.take_add_one,S4 h];rfl
theorem Th {k:Int} {l:List DepT} {i:Nat} (h:i < l.length):joinN k 0 (l.take (i+1))=joinN k 0 (l.take i)++(Hh k i++Fp (nth l i)):=by
 rw[X0l h,Q3y,List.length_take,Nat.zero_add,Nat.min_eq_left (by omega)]
theorem Sb {k:Int} {i:Nat} (h:0 < i) (h4:k=4∧i=2):Hh k i=[32]++[101,108,115,101]++[32]:=by unfold Hh L3;rw[if_pos h,if_pos h4]
theorem Sa {k:Int} {i:Nat} (h:0 < i) (h4:¬(k=4∧i=2)):Hh k i=[32]++nth Bv k.toNat++[32]:=by unfold Hh L3;rw[if_pos h,if_neg h4]
theorem R9 {k:Int} {i:Nat} (h:¬0 < i):Hh k i=[]:=by unfold Hh;rw[if_neg h]
theorem Y3g (l:List DepT) (i:Nat):argsSize (l.take i)≤argsSize l:=by
 induction l generalizing i with
 |nil=>simp
 |cons d r ih =>
  cases i with
  |zero=>simp[argsSize]
  |succ i=>have:=ih i;simp only[List.take_succ_cons,argsSize];omega
theorem Y3f {l:List DepT} {i:Nat}:i < l.length→argsSize (l.take i)+(nth l i).size≤argsSize l:=fun h=>Yc h
theorem Q7v {k:Int}:∀{l:List DepT} {i:Nat},argsForm k l=true→i < l.length→Cu (nth l i)=true
 |[],i,_,h=>by simp at h
 |d::r,i,h,hi=>by
  unfold argsForm at h;simp only[Bool.and_eq_true] at h
  cases i with
  |zero=>exact h.2.1
  |succ i=>exact Q7v (l:=r) h.2.2 (by simpa using hi)
theorem Tr {k op:Int} {nm ev:List UInt8} {args:List DepT} (h:Cu (.mk k nm op ev args)=true) (hk:k=1):0≤op∧op≤7∧args=[]∧Bh nm=true∧(op=0→ev=[])∧(op≠0→Ch ev=0):=by
 unfold Cu at h;rw[if_pos hk] at h;unfold I0 at h;simp only[Bool.and_eq_true,decide_eq_true_eq] at h;obtain⟨h1,h2,h3,h4,h5⟩:=h;refine⟨h2,h3,List.length_eq_zero_iff.1 h4,h1,fun e=>?_,fun e=>?_⟩
 ·rw[if_pos e] at h5;simpa using h5
 ·rw[if_neg e] at h5;simpa using h5
theorem Ts {k op:Int} {nm ev:List UInt8} {args:List DepT} (h:Cu (.mk k nm op ev args)=true) (hk:k≠1):2≤k∧k≤6∧nm=[]∧op=0∧ev=[]∧2≤args.length∧(k=4→args.length≤3)∧(k=6→args.length≤2)∧argsForm k args=true:=by
 unfold Cu at h;rw[if_neg hk] at h;simp only[Bool.and_eq_true,Hr,Bool.not_eq_true',decide_eq_false_iff_not,not_or,Decidable.not_not] at h;obtain⟨⟨⟨h1,h2,h3,h4,h5,h6⟩,h7,h8⟩,h9⟩:=h;refine⟨by omega,by omega,h3,h4,h5,by omega,fun e=>?_,fun e=>?_,h9⟩
 ·exact Nat.le_of_not_lt fun x=>h7 ⟨e,x⟩
 ·exact Nat.le_of_not_lt fun x=>h8 ⟨e,x⟩
def Yw (d:DepT):Prop:=∀(u w:World) (cs:List Value) (b:Nat) (l:List UInt8),DepC u d cs→Below u.heap.size u w→u.heap.size≤b→Bld w b l→Cu d=true→d.size≤4194304→l.length+16*d.size≤140737488355328 →
 Calls prog 203 #[.pointer (some ⟨b,0,none⟩),.agg cs.toArray] w (Ret fun v w'=>Bld w' b (l++Fp d)∧Kept b w w')
theorem X25 (k op:Nat) (nm ev:List UInt8) (args:List DepT) (sv:Value) (css:List (List Value)) (u w:World) (b:Nat) (l:List UInt8) (hr:RowIs u sv args.length 5 css.flatten) (ha:ArgsC u args css) (hu:Below u.heap.size u w) (hub:u.heap.size≤b) (hB:Bld w b l) (hf:Cu (.mk k nm op ev args)=true) (hs:argsSize args+1+nm.length+ev.length≤4194304) (hl:l.length+16*(argsSize args+1+nm.length+ev.length)≤140737488355328) (ih:∀i,i < args.length→Yw (nth args i)) :
  Calls prog 203 #[(.pointer (some ⟨b,0,none⟩)),(.agg #[(.int .i64 ((k:Int))),(S nm),(.int .i64 ((op:Int))),(S ev),sv])] w (Ret fun v w'=>Bld w' b (l++Fp (.mk k nm op ev args))∧Kept b w w'):=by
 have hal:=Y3h args;have hbl:=hB.lt;have hus:=hu.size;have hsl:=Vl op;have hwl:=Rp k;refine D1 func203 rfl ntmps203 ?_;refine W_seq (W_reg ?_);refine Yp (v:=(.agg #[(.int .i64 ((k:Int))),(S nm),(.int .i64 ((op:Int))),(S ev),sv])) rfl rfl (fun w1 n1=>?_);have e1:w1.heap[w.heap.size]? = some (.cells #[(.int .i64 ((k:Int))),(S nm),(.int .i64 ((op:Int))),(S ev),sv] 86 (0,0)):=n1.here;have z1:=n1.size;refine A0 (W_seq ?_);refine W_seq (W_reg ?_);refine Eu (v:=(.pointer (some ⟨w.heap.size,0,none⟩))) rfl (by kernel_rfl) (He (a:=⟨w.heap.size,0,none⟩) (v:=(.int .i64 ((k:Int)))) rfl rfl underlying3 rfl (Er e1 rfl) ?_);refine Ah (v:=(.bool (decide ((k:Int)=1)))) rfl rfl (A0 ?_);refine Fu (p:=(k:Int)=1) rfl (fun c1=>?_) (fun c1=>?_)
 ·refine W_seq (W_reg ?_);have hfn:=Tr hf c1;have hop:=hfn.1;have hop7:=hfn.2.1;refine Ah (v:=(.pointer (some ⟨b,0,none⟩))) rfl rfl (Eu (v:=(.pointer (some ⟨w.heap.size,1,none⟩))) rfl (by kernel_rfl) ?_);refine He (a:=⟨w.heap.size,1,none⟩) (v:=(S nm)) rfl rfl underlying9 rfl (Er e1 rfl) (Cv rfl (by exact T5) (Rn (l:=l) nm (Bld.ext hB (n1.below (Below.refl w.heap.size w) (Below.refl w.heap.size w).size)) (by first|omega|(simp only[List.length_append,List.length_cons,List.length_nil];omega))) ?_);rintro _ ws2 ⟨hs2,ks2⟩;have zs2:=ks2.size;refine A0 ?_;refine W_seq (W_seq ?_);refine W_reg (Eu (v:=(.pointer (some ⟨w.heap.size,2,none⟩))) rfl (by kernel_rfl) ?_);refine He (a:=⟨w.heap.size,2,none⟩) (v:=(.int .i64 ((op:Int)))) rfl rfl underlying3 rfl (Er (D5 ks2 e1 (by decide) (by omega)) rfl) (Ah (v:=(.bool (decide (0 < (op:Int))))) rfl rfl ?_);refine A0 ?_;refine Fu (p:=0 < (op:Int)) rfl (fun c2=>?_) (fun c2=>?_)
  ·refine Q8f (by kernel_rfl) (S0:=fun w'=>w'.heap[w.heap.size]? = some (.cells #[(.int .i64 ((k:Int))),(S nm),(.int .i64 ((op:Int))),(S ev),sv] 86 (0,0))) (fun w3 d3=>?_);have z3:=d3.ext.size;refine Lw (Du d3 (D5 ks2 e1 (by decide) (by omega))) 0 rfl (by kernel_rfl) (by kernel_rfl) (by kernel_rfl) rfl (fun _=>Ji (v:=(.pointer (some ⟨b,0,none⟩))) rfl) (Lw (Du d3 (D5 ks2 e1 (by decide) (by omega))) 2 rfl (by kernel_rfl) (by kernel_rfl) (by kernel_rfl) rfl (v:=(.pointer (some ⟨w.heap.size,2,none⟩))) (fun _=>by kernel_rfl) ?_);refine Uk (Du d3 (D5 ks2 e1 (by decide) (by omega))) 3 rfl (by kernel_rfl) (by kernel_rfl) (by kernel_rfl) rfl (fun wq bq=>Rk (a:=⟨w.heap.size,2,none⟩) (v:=(.int .i64 ((op:Int)))) rfl underlying3 rfl (Er bq rfl)) (Lw (Du d3 (D5 ks2 e1 (by decide) (by omega))) 8 rfl (by kernel_rfl) (by kernel_rfl) (by kernel_rfl) rfl (v:=(.pointer (some ⟨w.heap.size,3,none⟩))) (fun _=>by kernel_rfl) ?_);refine Uk (Du d3 (D5 ks2 e1 (by decide) (by omega))) 9 rfl (by kernel_rfl) (by kernel_rfl) (by kernel_rfl) rfl (fun wq bq=>Rk (a:=⟨w.heap.size,3,none⟩) (v:=(S ev)) rfl underlying9 rfl (Er bq rfl)) (Nb 1 (by kernel_rfl) rfl ?_)
   refine Cv rfl (by exact Xf) (X1a _) ?_;rintro v4 w4 ⟨r4,h4⟩;have z4:=h4.size;refine A0 ⟨rfl,(D8 h4 (Du d3 (D5 ks2 e1 (by decide) (by omega)))),?_⟩;refine Nb 4 (by kernel_rfl) rfl ?_;refine Q8l (v:=v4) (f:=S) (l:=signsL) (i:=op) rfl rfl rfl r4 underlying75 (fun _=>by kernel_rfl) (by first|rfl|omega) (by first|omega|(simp;done)|(simp;omega)) (fun b5 o5 x5=>?_);refine A0 ⟨rfl,(D8 h4 (Du d3 (D5 ks2 e1 (by decide) (by omega)))),?_⟩;refine Nb 5 (by kernel_rfl) rfl (He (v:=(S (nth signsL op))) rfl rfl underlying9 rfl x5 ?_);refine A0 ⟨rfl,(D8 h4 (Du d3 (D5 ks2 e1 (by decide) (by omega)))),?_⟩;refine Lw (D8 h4 (Du d3 (D5 ks2 e1 (by decide) (by omega)))) 6 rfl (by kernel_rfl) (by kernel_rfl) (by kernel_rfl) rfl (fun _=>Rj (l1:=[32]) (l2:=nth signsL op) rfl rfl (by first|omega|(simp;done)|(simp;omega))) ?_;refine Lw (D8 h4 (Du d3 (D5 ks2 e1 (by decide) (by omega)))) 7 rfl (by kernel_rfl) (by kernel_rfl) (by kernel_rfl) rfl (fun _=>Rj (l1:=([32])++(nth signsL op)) (l2:=[32]) rfl rfl (by first|omega|(simp;done)|(simp;omega))) ?_
   refine Lw (D8 h4 (Du d3 (D5 ks2 e1 (by decide) (by omega)))) 10 rfl (by kernel_rfl) (by kernel_rfl) (by kernel_rfl) rfl (fun _=>Rj (l1:=(([32])++(nth signsL op))++([32])) (l2:=ev) rfl rfl (by first|omega|(simp;done)|(simp;omega))) ?_;refine Nb 11 (by kernel_rfl) rfl (Cv rfl (by exact T5) (Rn (l:=(l++nm)) (((([32])++(nth signsL op))++([32]))++ev) (Bld.ext hs2 (Dg (d3.below (Below.refl ws2.heap.size ws2)) h4)) (by first|omega|(simp only[List.length_append,List.length_cons,List.length_nil];omega))) ?_);rintro _ ws6 ⟨hs6,ks6⟩;have zs6:=ks6.size;refine A0 ⟨rfl,(D5 ks6 (D8 h4 (Du d3 (D5 ks2 e1 (by decide) (by omega)))) (by decide) (by omega)),?_⟩;refine Q8g (by kernel_rfl) (W_ret ?_);refine Oz (fn:=Tryz.f203) (by first|exact .inl rfl|exact .inr rfl) rfl ?_;refine⟨?_,(Kept.trans (Ed (Ed (Kept.trans (Ed (Kept.refl b w) n1.ext (by omega)) ks2) d3.ext (by omega)) h4 (by omega)) ks6)⟩;have e:=hs6;unfold Fp;rw[if_pos c1,if_pos c2];simpa using e
  ·refine W_skip (W_ret ?_);refine Oz (fn:=Tryz.f203) (by first|exact .inl rfl|exact .inr rfl) rfl ?_;refine⟨?_,(Kept.trans (Ed (Kept.refl b w) n1.ext (by omega)) ks2)⟩;have e:=hs2;unfold Fp;rw[if_pos c1,if_neg c2];exact e
 ·refine W_skip ?_;refine W_seq (W_reg ?_);have hfn:=Ts hf c1;have hk2:=hfn.1;have hk6:=hfn.2.1;have hfa:=fun i (hi:i < args.length)=>Q7v hfn.2.2.2.2.2.2.2.2 hi;refine Ah (v:=(.pointer (some ⟨b,0,none⟩))) rfl rfl (Cv rfl (by exact Q5q) (Zc (l:=l) 40 (Bld.ext hB (n1.below (Below.refl w.heap.size w) (Below.refl w.heap.size w).size)) (by first|omega|(simp only[List.length_append,List.length_cons,List.length_nil];omega))) ?_);rintro _ ws7 ⟨hs7,ks7⟩;have zs7:=ks7.size;refine A0 (W_seq ?_);refine W_seq (W_reg ?_);refine Eu (v:=(.pointer (some ⟨w.heap.size,4,none⟩))) rfl (by kernel_rfl) (He (a:=⟨w.heap.size,4,none⟩) (v:=sv) rfl rfl underlying74 rfl (Er (D5 ks7 e1 (by decide) (by omega)) rfl) ?_);refine Y4r (v:=sv) (m:=args.length) (sz:=5) rfl rfl (hr.ext (F9 (n1.below (Dg (Below.refl u.heap.size u) hu) (Dg (Below.refl u.heap.size u) hu).size) ks7 (by omega))) underlying74 (Ah (v:=(.int .i64 0)) rfl rfl ?_);refine A0 (Gw ?_)
  refine M9 (fun g σ' w'=>∃(i:Nat),σ' 0=(.pointer (some ⟨b,0,none⟩))∧σ' 3=(.pointer (some ⟨w.heap.size,0,none⟩))∧σ' 32=sv∧σ' 33=(.int .i64 ((args.length:Int)))∧σ' 34=(.int .i64 ((i:Int)))∧w'.heap[w.heap.size]? = some (.cells #[(.int .i64 ((k:Int))),(S nm),(.int .i64 ((op:Int))),(S ev),sv] 86 (0,0))∧i≤args.length∧Kept b w w'∧Bld w' b (l++[40]++joinN k 0 (args.take i))∧g=args.length-i) ?_ ?_
  ·refine⟨_,0,rfl,rfl,rfl,rfl,rfl,(D5 ks7 e1 (by decide) (by omega)),?_,?_,?_,rfl⟩
   ·omega
   ·exact(Kept.trans (Ed (Kept.refl b w) n1.ext (by omega)) ks7)
   ·simpa [joinN] using hs7
  ·rintro g σl1 wl1 ⟨i,l1_0,l1_3,l1_32,l1_33,l1_34,k1_1,f1_1,f1_2,f1_3,rfl⟩;refine C5 (d:=0) l1_0 (C5 (d:=3) l1_3 (C5 (d:=32) l1_32 (C5 (d:=33) l1_33 (C5 (d:=34) l1_34 (?_)))));have zf:=f1_2.size;have zk:=Gb k1_1;have hjl:=joinN_len k 0 (args.take i);have hjt:=Y3f (l:=args) (i:=i);have hjm:=Y3g args i;refine W_seq ?_;refine W_reg (Ah (v:=(.bool (decide ((i:Int) < (args.length:Int))))) rfl rfl ?_);refine A0 (W_seq ?_);refine Fu (p:=(i:Int) < (args.length:Int)) rfl (fun c3=>?_) (fun c3=>?_)
   ·refine W_skip (W_seq ?_);refine Gw (W_seq ?_);refine W_reg (Ah (v:=(.int .i64 ((i:Int)))) rfl rfl ?_);refine Y4s (v:=sv) (css:=css) (i:=i) rfl rfl rfl (hr.ext (F9 (Dg (Below.refl u.heap.size u) hu) f1_2 (by omega))) ha.each ha.len underlying74 (fun _=>by kernel_rfl) (by first|rfl|omega) (by first|omega|(simp;done)|(simp;omega)) (fun b8 o8 x8=>?_);refine Y4p (vs:=nth css i) (sz:=5) rfl rfl underlying86 rfl (ha.each _ (P2 (by rw[ha.len];omega))) (fun _=>by kernel_rfl) x8 ?_;obtain⟨ki,nmi,opi,evi,svi,bsi,csi,hxi,hri,hdi,hai⟩:=ArgsC.five ha (show i < args.length by omega);refine Ip 38 (v:=.agg (nth css i).toArray) (v':=.agg #[.int .i64 ki,S nmi,.int .i64 opi,S evi,svi]) rfl (by rw[hxi]) ?_;refine O7 (v:=(.agg #[(.int .i64 0),(S []),(.int .i64 0),(S []),(.slice none 0 0)])) rfl (fun _=>by kernel_rfl) (fun w9 n9=>?_);have e9:w9.heap[wl1.heap.size]? = some (.cells #[(.int .i64 0),(S []),(.int .i64 0),(S []),(.slice none 0 0)] 86 (0,0)):=n9.here;have z9:=n9.size;refine Ah (v:=(.int .i64 ((i:Int)))) rfl rfl ?_;have p10:=e9
    refine O5 (b:=wl1.heap.size) (o:=0) (c' := #[(.int .i64 ki),(S nmi),(.int .i64 opi),(S evi),svi]) rfl rfl rfl (fun _=>by kernel_rfl) (by rw[Array.all_eq_true_iff_forall_mem];intro v hv;simp only[List.mem_toArray,List.mem_cons,List.not_mem_nil,or_false] at hv;rcases hv with hv|hv|hv|hv|hv<;>(rw[hv];first|rfl|exact X4b (hri.ext (n9.below (F9 (Dg (Below.refl u.heap.size u) hu) f1_2 (by omega)) (F9 (Dg (Below.refl u.heap.size u) hu) f1_2 (by omega)).size)))) p10 (by simp) (fun w10 u10=>?_);have e10:w10.heap[wl1.heap.size]? = some (.cells #[(.int .i64 ki),(S nmi),(.int .i64 opi),(S evi),svi] 86 (0,0)):=u10.here;have z10:=u10.size;refine A0 (W_seq ?_);refine Q8f (by kernel_rfl) (S0:=fun w'=>w'.heap[w.heap.size]? = some (.cells #[(.int .i64 ((k:Int))),(S nm),(.int .i64 ((op:Int))),(S ev),sv] 86 (0,0))) (fun w11 d11=>?_);have z11:=d11.ext.size;refine Lw (Du d11 (u10.keep (n9.keep k1_1) (by first|assumption|omega|(simp;omega)))) 1 rfl (by kernel_rfl) (by kernel_rfl) (by kernel_rfl) rfl (v:=(.pointer (some ⟨w.heap.size,0,none⟩))) (fun _=>by kernel_rfl) ?_
    refine Uk (Du d11 (u10.keep (n9.keep k1_1) (by first|assumption|omega|(simp;omega)))) 2 rfl (by kernel_rfl) (by kernel_rfl) (by kernel_rfl) rfl (fun wq bq=>Rk (a:=⟨w.heap.size,0,none⟩) (v:=(.int .i64 ((k:Int)))) rfl underlying3 rfl (Er bq rfl)) ?_;refine Nb 0 (by kernel_rfl) rfl (Cv rfl (by exact Xe) (Q9k _) ?_);rintro v12 w12 ⟨r12,h12⟩;have z12:=h12.size;refine A0 ⟨rfl,(D8 h12 (Du d11 (u10.keep (n9.keep k1_1) (by first|assumption|omega|(simp;omega))))),?_⟩;refine Nb 3 (by kernel_rfl) rfl ?_;refine Q8l (v:=v12) (f:=S) (l:=Bv) (i:=k) rfl rfl rfl r12 underlying75 (fun _=>by kernel_rfl) (by first|rfl|omega) (by first|omega|(simp;done)|(simp;omega)) (fun b13 o13 x13=>?_);refine A0 ⟨rfl,(D8 h12 (Du d11 (u10.keep (n9.keep k1_1) (by first|assumption|omega|(simp;omega))))),?_⟩;refine Nb 4 (by kernel_rfl) rfl (He (v:=(S (nth Bv k))) rfl rfl underlying9 rfl x13 ?_);refine A0 ⟨rfl,(D8 h12 (Du d11 (u10.keep (n9.keep k1_1) (by first|assumption|omega|(simp;omega))))),?_⟩;refine Lw (D8 h12 (Du d11 (u10.keep (n9.keep k1_1) (by first|assumption|omega|(simp;omega))))) 5 rfl (by kernel_rfl) (by kernel_rfl) (by kernel_rfl) rfl (fun _=>Ji (v:=(S (nth Bv k))) rfl) ?_
    refine Q8g (by kernel_rfl) (W_seq ?_);refine Q9 (fun σ' w'=>w12=w'∧σ' 0=(.pointer (some ⟨b,0,none⟩))∧σ' 3=(.pointer (some ⟨w.heap.size,0,none⟩))∧σ' 4=(.int .i64 ((i:Int)))∧σ' 5=(.pointer (some ⟨wl1.heap.size,0,none⟩))∧σ' 6=(S (nth Bv k))∧σ' 32=sv∧σ' 33=(.int .i64 ((args.length:Int)))∧σ' 34=(.int .i64 ((i:Int)))∧σ' 50=(.bool (decide ((k:Int)=4∧i=2)))) ?_ ?_
    ·refine W_reg ?_;refine Eu (v:=(.pointer (some ⟨w.heap.size,0,none⟩))) rfl (by kernel_rfl) (He (a:=⟨w.heap.size,0,none⟩) (v:=(.int .i64 ((k:Int)))) rfl rfl underlying3 rfl (Er (D8 h12 (Du d11 (u10.keep (n9.keep k1_1) (by first|assumption|omega|(simp;omega))))) rfl) ?_);refine Ah (v:=(.bool (decide ((k:Int)=4)))) rfl rfl (Ah (v:=(.bool (decide ((k:Int)=4)))) rfl rfl ?_);refine Ra 47 (p:=(k:Int)=4) (by exact rfl) (fun c4=>?_) (fun c4=>?_)
     ·refine Ah (v:=(.int .i64 ((i:Int)))) rfl rfl (Ah (v:=(.bool (decide ((i:Int)=2)))) rfl rfl ?_);refine Ah (v:=(.bool (decide ((i:Int)=2)))) rfl rfl (A0 ?_);exact⟨rfl,rfl,rfl,rfl,rfl,rfl,rfl,rfl,rfl,(by show((.bool (decide ((i:Int)=2))):Value)=(.bool (decide ((k:Int)=4∧i=2)));show Value.bool _=Value.bool _;rw[Value.bool.injEq,Bool.eq_iff_iff];first|(simp[c4];done)|(simp[c4];omega)|(simp_all [];done)|(simp_all [];omega)|(simp only[Bool.or_eq_true,Bool.and_eq_true,Bool.not_eq_true',decide_eq_true_eq,decide_eq_false_iff_not];grind))⟩
     ·refine D9 rfl (D9 rfl ?_);refine Ah (v:=(.bool false)) rfl rfl (A0 ?_);exact⟨rfl,rfl,rfl,rfl,rfl,rfl,rfl,rfl,rfl,(by show((.bool false):Value)=(.bool (decide ((k:Int)=4∧i=2)));show Value.bool _=Value.bool _;rw[Value.bool.injEq,Bool.eq_iff_iff];first|(simp[c4];done)|(simp[c4];omega)|(simp_all [];done)|(simp_all [];omega)|(simp only[Bool.or_eq_true,Bool.and_eq_true,Bool.not_eq_true',decide_eq_true_eq,decide_eq_false_iff_not];grind))⟩
    ·rintro σ1 _ ⟨rfl,h1_0,h1_3,h1_4,h1_5,h1_6,h1_32,h1_33,h1_34,h1_50⟩;refine C5 (d:=0) h1_0 (C5 (d:=3) h1_3 (C5 (d:=4) h1_4 (C5 (d:=5) h1_5 (C5 (d:=6) h1_6 (C5 (d:=32) h1_32 (C5 (d:=33) h1_33 (C5 (d:=34) h1_34 (C5 (d:=50) h1_50 (?_)))))))));refine Fu (p:=(k:Int)=4∧i=2) rfl (fun c5=>?_) (fun c5=>?_)
     ·refine W_reg (Ah (v:=(S ([101,108,115,101]))) rfl rfl ?_);refine A0 (W_seq ?_);refine W_seq (W_reg ?_);refine Ah (v:=(.int .i64 ((i:Int)))) rfl rfl (Ah (v:=(.bool (decide (0 < (i:Int))))) rfl rfl ?_);refine A0 ?_;refine Fu (p:=0 < (i:Int)) rfl (fun c6=>?_) (fun c6=>?_)
      ·refine W_reg (Ah (v:=(.pointer (some ⟨b,0,none⟩))) rfl rfl ?_);refine Ah (v:=(S ([101,108,115,101]))) rfl rfl (Ul (l1:=[32]) (l2:=[101,108,115,101]) rfl rfl rfl (by first|omega|(simp;done)|(simp;omega)) ?_);refine Ul (l1:=([32])++([101,108,115,101])) (l2:=[32]) rfl rfl rfl (by first|omega|(simp;done)|(simp;omega)) ?_;refine Cv rfl (by exact T5) (Rn (l:=(l++[40]++joinN k 0 (args.take i))) ((([32])++([101,108,115,101]))++([32])) (Bld.ext f1_3 (Dg (d11.below (u10.below (n9.below (Below.refl wl1.heap.size wl1) (Below.refl wl1.heap.size wl1).size) (by omega))) h12)) (by first|omega|(simp only[List.length_append,List.length_cons,List.length_nil];omega))) ?_;rintro _ ws14 ⟨hs14,ks14⟩;have zs14:=ks14.size;refine A0 ?_;refine W_reg (Ah (v:=(.pointer (some ⟨b,0,none⟩))) rfl rfl ?_);refine Nc (b:=wl1.heap.size) (o:=0) (m:=5) (c := #[(.int .i64 ki),(S nmi),(.int .i64 opi),(S evi),svi]) rfl rfl underlying86 rfl (fun _=>by kernel_rfl) (D5 ks14 (D8 h12 (Du d11 e10)) (by decide) (by omega)) (by simp) (Ip 59 (v':=(.agg #[(.int .i64 ki),(S nmi),(.int .i64 opi),(S evi),svi])) rfl rfl ?_)
       refine Cv rfl (by exact Qy) (ih i (by omega) u _ [.int .i64 ki,S nmi,.int .i64 opi,S evi,svi] b ((l++[40]++joinN k 0 (args.take i))++((([32])++([101,108,115,101]))++([32]))) (by rw[←hxi];exact ArgsC.at ha i (by omega)) (F9 (Dg (d11.below (u10.below (n9.below (F9 (Dg (Below.refl u.heap.size u) hu) f1_2 (by omega)) (F9 (Dg (Below.refl u.heap.size u) hu) f1_2 (by omega)).size) (by omega))) h12) ks14 (by omega)) hub hs14 (hfa i (by omega)) (by have:=Jz (show i < args.length by omega);omega) (by first|omega|(simp only[List.length_append,List.length_cons,List.length_nil];omega))) ?_;rintro _ ws15 ⟨hs15,ks15⟩;have zs15:=ks15.size;refine A0 ?_;refine W_reg (O8 (b:=1) (v:=(i:Int)+1) rfl rfl rfl (by simp only[kLo,kHi];omega) ?_);refine Ah (v:=(.int .i64 ((i:Int)+1))) rfl rfl (A0 ?_);refine⟨_,?_,i+1,rfl,rfl,rfl,rfl,rfl,(D5 ks15 (D5 ks14 (D8 h12 (Du d11 (u10.keep (n9.keep k1_1) (by first|assumption|omega|(simp;omega))))) (by decide) (by omega)) (by decide) (by omega)),?_,?_,?_,rfl⟩
       ·omega
       ·omega
       ·exact(Kept.trans (Kept.trans (Ed (Ed (by first|exact Oh (Ed (Kept.trans (Kept.refl b w) f1_2) n9.ext (by omega)) u10|exact Og (Ed (Kept.trans (Kept.refl b w) f1_2) n9.ext (by omega)) u10 (by omega)) d11.ext (by omega)) h12 (by omega)) ks14) ks15)
       ·have e:=hs15;rw[Th (show i < args.length by omega)]
        first|rw[Sb (k:=(k:Int)) (i:=i) (by omega) (by omega)]|rw[Sa (k:=(k:Int)) (i:=i) (by omega) (by omega)]|rw[R9 (k:=(k:Int)) (i:=i) (by omega)]
        first|(simpa only [List.append_assoc,Int.toNat_natCast,List.nil_append] using e)|(exfalso;omega)
      ·refine W_skip (W_reg ?_);refine Ah (v:=(.pointer (some ⟨b,0,none⟩))) rfl rfl (Nc (b:=wl1.heap.size) (o:=0) (m:=5) (c := #[(.int .i64 ki),(S nmi),(.int .i64 opi),(S evi),svi]) rfl rfl underlying86 rfl (fun _=>by kernel_rfl) (D8 h12 (Du d11 e10)) (by simp) ?_);refine Ip 59 (v':=(.agg #[(.int .i64 ki),(S nmi),(.int .i64 opi),(S evi),svi])) rfl rfl (Cv rfl (by exact Qy) (ih i (by omega) u _ [.int .i64 ki,S nmi,.int .i64 opi,S evi,svi] b (l++[40]++joinN k 0 (args.take i)) (by rw[←hxi];exact ArgsC.at ha i (by omega)) (Dg (d11.below (u10.below (n9.below (F9 (Dg (Below.refl u.heap.size u) hu) f1_2 (by omega)) (F9 (Dg (Below.refl u.heap.size u) hu) f1_2 (by omega)).size) (by omega))) h12) hub (Bld.ext f1_3 (Dg (d11.below (u10.below (n9.below (Below.refl wl1.heap.size wl1) (Below.refl wl1.heap.size wl1).size) (by omega))) h12)) (hfa i (by omega)) (by have:=Jz (show i < args.length by omega);omega) (by first|omega|(simp only[List.length_append,List.length_cons,List.length_nil];omega))) ?_);rintro _ ws16 ⟨hs16,ks16⟩;have zs16:=ks16.size;refine A0 ?_;refine W_reg (O8 (b:=1) (v:=(i:Int)+1) rfl rfl rfl (by simp only[kLo,kHi];omega) ?_)
       refine Ah (v:=(.int .i64 ((i:Int)+1))) rfl rfl (A0 ?_);refine⟨_,?_,i+1,rfl,rfl,rfl,rfl,rfl,(D5 ks16 (D8 h12 (Du d11 (u10.keep (n9.keep k1_1) (by first|assumption|omega|(simp;omega))))) (by decide) (by omega)),?_,?_,?_,rfl⟩
       ·omega
       ·omega
       ·exact(Kept.trans (Ed (Ed (by first|exact Oh (Ed (Kept.trans (Kept.refl b w) f1_2) n9.ext (by omega)) u10|exact Og (Ed (Kept.trans (Kept.refl b w) f1_2) n9.ext (by omega)) u10 (by omega)) d11.ext (by omega)) h12 (by omega)) ks16)
       ·have e:=hs16;rw[Th (show i < args.length by omega)]
        first|rw[Sb (k:=(k:Int)) (i:=i) (by omega) (by omega)]|rw[Sa (k:=(k:Int)) (i:=i) (by omega) (by omega)]|rw[R9 (k:=(k:Int)) (i:=i) (by omega)]
        first|(simpa only [List.append_assoc,Int.toNat_natCast,List.nil_append] using e)|(exfalso;omega)
     ·refine W_skip (W_seq ?_);refine W_seq (W_reg ?_);refine Ah (v:=(.int .i64 ((i:Int)))) rfl rfl (Ah (v:=(.bool (decide (0 < (i:Int))))) rfl rfl ?_);refine A0 ?_;refine Fu (p:=0 < (i:Int)) rfl (fun c7=>?_) (fun c7=>?_)
      ·refine W_reg (Ah (v:=(.pointer (some ⟨b,0,none⟩))) rfl rfl ?_);refine Ah (v:=(S (nth Bv k))) rfl rfl (Ul (l1:=[32]) (l2:=nth Bv k) rfl rfl rfl (by first|omega|(simp;done)|(simp;omega)) ?_);refine Ul (l1:=([32])++(nth Bv k)) (l2:=[32]) rfl rfl rfl (by first|omega|(simp;done)|(simp;omega)) ?_;refine Cv rfl (by exact T5) (Rn (l:=(l++[40]++joinN k 0 (args.take i))) ((([32])++(nth Bv k))++([32])) (Bld.ext f1_3 (Dg (d11.below (u10.below (n9.below (Below.refl wl1.heap.size wl1) (Below.refl wl1.heap.size wl1).size) (by omega))) h12)) (by first|omega|(simp only[List.length_append,List.length_cons,List.length_nil];omega))) ?_;rintro _ ws17 ⟨hs17,ks17⟩;have zs17:=ks17.size;refine A0 ?_;refine W_reg (Ah (v:=(.pointer (some ⟨b,0,none⟩))) rfl rfl ?_);refine Nc (b:=wl1.heap.size) (o:=0) (m:=5) (c := #[(.int .i64 ki),(S nmi),(.int .i64 opi),(S evi),svi]) rfl rfl underlying86 rfl (fun _=>by kernel_rfl) (D5 ks17 (D8 h12 (Du d11 e10)) (by decide) (by omega)) (by simp) (Ip 59 (v':=(.agg #[(.int .i64 ki),(S nmi),(.int .i64 opi),(S evi),svi])) rfl rfl ?_)
       refine Cv rfl (by exact Qy) (ih i (by omega) u _ [.int .i64 ki,S nmi,.int .i64 opi,S evi,svi] b ((l++[40]++joinN k 0 (args.take i))++((([32])++(nth Bv k))++([32]))) (by rw[←hxi];exact ArgsC.at ha i (by omega)) (F9 (Dg (d11.below (u10.below (n9.below (F9 (Dg (Below.refl u.heap.size u) hu) f1_2 (by omega)) (F9 (Dg (Below.refl u.heap.size u) hu) f1_2 (by omega)).size) (by omega))) h12) ks17 (by omega)) hub hs17 (hfa i (by omega)) (by have:=Jz (show i < args.length by omega);omega) (by first|omega|(simp only[List.length_append,List.length_cons,List.length_nil];omega))) ?_;rintro _ ws18 ⟨hs18,ks18⟩;have zs18:=ks18.size;refine A0 ?_;refine W_reg (O8 (b:=1) (v:=(i:Int)+1) rfl rfl rfl (by simp only[kLo,kHi];omega) ?_);refine Ah (v:=(.int .i64 ((i:Int)+1))) rfl rfl (A0 ?_);refine⟨_,?_,i+1,rfl,rfl,rfl,rfl,rfl,(D5 ks18 (D5 ks17 (D8 h12 (Du d11 (u10.keep (n9.keep k1_1) (by first|assumption|omega|(simp;omega))))) (by decide) (by omega)) (by decide) (by omega)),?_,?_,?_,rfl⟩
       ·omega
       ·omega
       ·exact(Kept.trans (Kept.trans (Ed (Ed (by first|exact Oh (Ed (Kept.trans (Kept.refl b w) f1_2) n9.ext (by omega)) u10|exact Og (Ed (Kept.trans (Kept.refl b w) f1_2) n9.ext (by omega)) u10 (by omega)) d11.ext (by omega)) h12 (by omega)) ks17) ks18)
       ·have e:=hs18;rw[Th (show i < args.length by omega)]
        first|rw[Sb (k:=(k:Int)) (i:=i) (by omega) (by omega)]|rw[Sa (k:=(k:Int)) (i:=i) (by omega) (by omega)]|rw[R9 (k:=(k:Int)) (i:=i) (by omega)]
        first|(simpa only [List.append_assoc,Int.toNat_natCast,List.nil_append] using e)|(exfalso;omega)
      ·refine W_skip (W_reg ?_);refine Ah (v:=(.pointer (some ⟨b,0,none⟩))) rfl rfl (Nc (b:=wl1.heap.size) (o:=0) (m:=5) (c := #[(.int .i64 ki),(S nmi),(.int .i64 opi),(S evi),svi]) rfl rfl underlying86 rfl (fun _=>by kernel_rfl) (D8 h12 (Du d11 e10)) (by simp) ?_);refine Ip 59 (v':=(.agg #[(.int .i64 ki),(S nmi),(.int .i64 opi),(S evi),svi])) rfl rfl (Cv rfl (by exact Qy) (ih i (by omega) u _ [.int .i64 ki,S nmi,.int .i64 opi,S evi,svi] b (l++[40]++joinN k 0 (args.take i)) (by rw[←hxi];exact ArgsC.at ha i (by omega)) (Dg (d11.below (u10.below (n9.below (F9 (Dg (Below.refl u.heap.size u) hu) f1_2 (by omega)) (F9 (Dg (Below.refl u.heap.size u) hu) f1_2 (by omega)).size) (by omega))) h12) hub (Bld.ext f1_3 (Dg (d11.below (u10.below (n9.below (Below.refl wl1.heap.size wl1) (Below.refl wl1.heap.size wl1).size) (by omega))) h12)) (hfa i (by omega)) (by have:=Jz (show i < args.length by omega);omega) (by first|omega|(simp only[List.length_append,List.length_cons,List.length_nil];omega))) ?_);rintro _ ws19 ⟨hs19,ks19⟩;have zs19:=ks19.size;refine A0 ?_;refine W_reg (O8 (b:=1) (v:=(i:Int)+1) rfl rfl rfl (by simp only[kLo,kHi];omega) ?_)
       refine Ah (v:=(.int .i64 ((i:Int)+1))) rfl rfl (A0 ?_);refine⟨_,?_,i+1,rfl,rfl,rfl,rfl,rfl,(D5 ks19 (D8 h12 (Du d11 (u10.keep (n9.keep k1_1) (by first|assumption|omega|(simp;omega))))) (by decide) (by omega)),?_,?_,?_,rfl⟩
       ·omega
       ·omega
       ·exact(Kept.trans (Ed (Ed (by first|exact Oh (Ed (Kept.trans (Kept.refl b w) f1_2) n9.ext (by omega)) u10|exact Og (Ed (Kept.trans (Kept.refl b w) f1_2) n9.ext (by omega)) u10 (by omega)) d11.ext (by omega)) h12 (by omega)) ks19)
       ·have e:=hs19;rw[Th (show i < args.length by omega)]
        first|rw[Sb (k:=(k:Int)) (i:=i) (by omega) (by omega)]|rw[Sa (k:=(k:Int)) (i:=i) (by omega) (by omega)]|rw[R9 (k:=(k:Int)) (i:=i) (by omega)]
        first|(simpa only [List.append_assoc,Int.toNat_natCast,List.nil_append] using e)|(exfalso;omega)
   ·refine Na (W_reg ?_);refine Ah (v:=(.pointer (some ⟨b,0,none⟩))) rfl rfl (Cv rfl (by exact Q5q) (Zc (l:=(l++[40]++joinN k 0 (args.take i))) 41 f1_3 (by first|omega|(simp only[List.length_append,List.length_cons,List.length_nil];omega))) ?_);rintro _ ws20 ⟨hs20,ks20⟩;have zs20:=ks20.size;refine A0 (Oz (fn:=Tryz.f203) (by first|exact .inl rfl|exact .inr rfl) rfl ?_);refine⟨?_,(Kept.trans (Kept.trans (Kept.refl b w) f1_2) ks20)⟩;have e:=hs20;unfold Fp;rw[if_neg c1];rw[List.take_of_length_le (by omega)] at e;simpa using e
theorem X26 (d:DepT):Yw d:=by
 refine Y1w (C:=Yw) (fun k nm op ev args ih=>?_) d;intro u w cs b l h hu hub hB hf hs hl;unfold DepC at h;obtain⟨sv,css,rfl,hr,ha⟩:=h;unfold DepT.size at hs hl
 have hk:0≤k∧0≤op:=by
  by_cases e:k=1
  ·have:=(Tr hf e).1;omega
  ·have:=Ts hf e;have h1:=this.1;have h2:=this.2.2.2.1;omega
 obtain⟨k,rfl⟩:∃n:Nat,k=n:=⟨k.toNat,by omega⟩
 obtain⟨op,rfl⟩:∃n:Nat,op=n:=⟨op.toNat,by omega⟩
 exact X25 k op nm ev args sv css u w b l hr ha hu hub hB hf hs hl ih
def Iv (d:DepT):List UInt8 × Int:=if Cg d=0 then (Fp d,0) else ([],Cg d)
theorem X2 {d:DepT} (h:Cg d=0):Cu d=true:=by
 unfold Cg at h;split at h
 ·assumption
 ·cases h
def Fm:List UInt8→List (List UInt8)→Prop
 |s,[]=>(Al s).1=[]
 |s,w::r=>(Al s).1=w∧w≠[]∧Fm (Al s).2 r
theorem Q2t (s:List UInt8):Al (32::s)=Al s:=by unfold Al;rw[show Cc (32::s)=Cc s from rfl]
theorem Rt {ws:List (List UInt8)} {s:List UInt8} (h:Fm s ws):Fm (32::s) ws:=by
 cases ws with
 |nil=>unfold Fm at h ⊢;rw[Q2t];exact h
 |cons w r=>unfold Fm at h ⊢;rw[Q2t];exact h
def Stop (t:List UInt8):Prop:=t=[]∨∃c r,t=c::r∧(c=32∨c=41)
theorem Sc:∀(w t:List UInt8) (n:Nat),Eb w n=true→Stop t→Dq (w++t) n=w.length
 |[],t,n,h,ht=>by
  have hn:n=0:=by unfold Eb at h;have:=of_decide_eq_true h;omega
  subst hn;rcases ht with rfl|⟨c,r,rfl,rfl|rfl⟩<;>rfl
 |c::w,t,n,h,ht=>by
  unfold Eb at h;split at h
  ·cases h
  ·rename_i hc;have h32:c≠32:=fun e=>hc (by rw[e];decide);show(if c=32 then 0 else if c=41 then (if n=0 then 0 else Dq (w++t) (n-1)+1) else if c=40 then Dq (w++t) (n+1)+1 else Dq (w++t) n+1)=w.length+1;rw[if_neg h32];by_cases h40:c=40
   ·subst h40;rw[if_pos (by decide)] at h;simp only at h;rw[if_neg (by omega)] at h;rw[if_neg (by decide),if_pos rfl,Sc w t (n+1) h ht]
   ·have h40':¬c.toNat=40:=fun e=>h40 (UInt8.toNat_inj.1 e);rw[if_neg h40'] at h;by_cases h41:c=41
    ·subst h41;rw[if_pos (by decide)] at h;simp only at h;split at h
     ·cases h
     ·rename_i hn;rw[if_pos rfl,if_neg (by omega),Sc w t (n-1) (by rw[show((n-1:Nat):Int)=(n:Int)-1 by omega];exact h) ht]
    ·have h41':¬c.toNat=41:=fun e=>h41 (UInt8.toNat_inj.1 e);rw[if_neg h41'] at h;simp only at h;rw[if_neg (by omega)] at h;rw[if_neg h41,if_neg h40,Sc w t n h ht]
def Word (w:List UInt8):Prop:=Eb w 0=true∧∃c r,w=c::r∧c≠40∧c≠41
theorem Word.next {w t:List UInt8} (h:Word w) (ht:Stop t):Al (w++t)=(w,t):=by
 obtain⟨h1,c,r,rfl,h40,h41⟩:=h;have hs:=Sc (c::r) t 0 h1 ht
 have h32:c≠32:=by
  rintro rfl;unfold Eb at h1;rw[if_pos (by decide)] at h1;cases h1
 unfold Al;rw[show Cc (c::r++t)=c::(r++t) by show Cc (c::(r++t))=_;unfold Cc;rw[if_neg h32]];simp only;rw[if_neg (by rintro (h|h)<;>contradiction)];rw[show c::(r++t)=(c::r)++t from rfl,hs,List.take_left,List.drop_left]
theorem Word.ne {w:List UInt8} (h:Word w):w≠[]:=by obtain⟨_,c,r,rfl,_⟩:=h;simp
theorem Pi {w t:List UInt8} {ws:List (List UInt8)} (h:Word w) (ht:Stop t) (hw:Fm t ws):Fm (w++t) (w::ws):=by
 unfold Fm;rw[h.next ht];exact⟨rfl,h.ne,hw⟩
theorem X0c {t:List UInt8} {ws:List (List UInt8)} (hw:Fm t ws):Fm (40::t) ([40]::ws):=by
 unfold Fm;exact⟨rfl,by simp,hw⟩
theorem X0d {t:List UInt8} {ws:List (List UInt8)} (hw:Fm t ws):Fm (41::t) ([41]::ws):=by
 unfold Fm;exact⟨rfl,by simp,hw⟩
theorem R4 (t:List UInt8):Stop (32::t):=.inr ⟨_,_,rfl,.inl rfl⟩
theorem X0w (t:List UInt8):Stop (41::t):=.inr ⟨_,_,rfl,.inr rfl⟩
theorem Zh {nm:List UInt8} (h:Bh nm=true):Word nm:=by
 unfold Bh at h;simp only[Bool.and_eq_true,Bool.not_eq_true'] at h;refine⟨h.2,?_⟩;have h1:=h.1;unfold G6 at h1;simp only[Bool.or_eq_false_iff,decide_eq_false_iff_not] at h1;obtain⟨h2,_,h3,h4,_⟩:=h1
 cases nm with
 |nil=>exact absurd rfl h2
 |cons c r=>exact⟨c,r,rfl,fun e=>h3 (by rw[e];rfl),fun e=>h4 (by rw[e];rfl)⟩
theorem Q1j:∀(l:List UInt8),(∀c∈l,¬(c.toNat < 33∨126 < c.toNat)∧c≠40∧c≠41)→Eb l 0=true
 |[],_=>rfl
 |c::r,h=>by
  have hc:=h c (by simp);unfold Eb;rw[if_neg hc.1,if_neg (show ¬c.toNat=40 from fun e=>hc.2.1 (UInt8.toNat_inj.1 e)),if_neg (show ¬c.toNat=41 from fun e=>hc.2.2 (UInt8.toNat_inj.1 e))];show(if (0:Int) < 0 then false else Eb r 0)=true;rw[if_neg (by decide)];exact Q1j r fun x hx=>h x (by simp[hx])
theorem Q24 (c:UInt8) (h:F8 c=true):¬(c.toNat < 33∨126 < c.toNat)∧c≠40∧c≠41:=by
 have key:∀n:Fin 256,F8 (UInt8.ofNat n)=true→¬((UInt8.ofNat n).toNat < 33∨126 < (UInt8.ofNat n).toNat)∧UInt8.ofNat n≠40∧UInt8.ofNat n≠41:=by decide +kernel
 have:=key ⟨c.toNat,c.toNat_lt⟩;rw[show UInt8.ofNat (⟨c.toNat,c.toNat_lt⟩:Fin 256)=c by simp] at this;exact this h
theorem Q4h {ev:List UInt8} (h:Ch ev=0):Ho ev=true:=by
 unfold Ch at h;split at h
 ·rename_i hb;unfold Km at hb;exact(Bool.and_eq_true _ _▸hb).1
 ·cases h
theorem Q9p {ev:List UInt8} (h:Ch ev=0):Word ev:=by
 have h1:=Q4h h;unfold Ho at h1;simp only[Bool.and_eq_true,List.all_eq_true,decide_eq_true_eq] at h1;obtain⟨h2,h3,_⟩:=h1;refine⟨Q1j ev fun c hc=>Q24 c (h2 c hc),?_⟩
 cases ev with
 |nil=>simp at h3
 |cons c r=>exact⟨c,r,rfl,(Q24 c (h2 c (by simp))).2⟩
theorem X8q {ev:List UInt8} (h:Ch ev=0):ev.length≤60:=by
 have h1:=Q4h h;unfold Ho at h1;simp only[Bool.and_eq_true,decide_eq_true_eq] at h1;exact h1.2.2
theorem X4w {nm:List UInt8} (h:Bh nm=true):nm.length≤60:=by
 unfold Bh at h;simp only[Bool.and_eq_true,Bool.not_eq_true'] at h;exact Wz h.1
theorem Q9n {n:Nat} (h1:1≤n) (h7:n≤7):Word (nth signsL n)∧Ff (nth signsL n)=n:=by
 have key:∀n:Fin 8,1≤n.1→(Eb (nth signsL n.1) 0=true∧((nth signsL n.1).head? ≠ none∧(nth signsL n.1).head? ≠ some 40∧(nth signsL n.1).head? ≠ some 41))∧Ff (nth signsL n.1)=(n.1:Int):=by decide +kernel
 obtain⟨⟨h2,h3,h4,h5⟩,h6⟩:=key ⟨n,by omega⟩ h1;refine⟨⟨h2,?_⟩,h6⟩;generalize nth signsL n=l at *
 cases l with
 |nil=>simp at h3
 |cons c r=>exact⟨c,r,rfl,fun e=>h4 (by rw[e];rfl),fun e=>h5 (by rw[e];rfl)⟩
theorem Q9o {n:Nat} (h2:2≤n) (h6:n≤6):Word (nth Bv n)∧Q3p (nth Bv n)=n∧Ff (nth Bv n)=0∧nth Bv n≠[41]:=by
 have key:∀n:Fin 7,2≤n.1→(Eb (nth Bv n.1) 0=true∧((nth Bv n.1).head? ≠ none∧(nth Bv n.1).head? ≠ some 40∧(nth Bv n.1).head? ≠ some 41))∧Q3p (nth Bv n.1)=(n.1:Int)∧Ff (nth Bv n.1)=0∧nth Bv n.1≠[41]:=by decide +kernel
 obtain⟨⟨h3,h4,h5,h7⟩,h8,h9,h10⟩:=key ⟨n,by omega⟩ h2;refine⟨⟨h3,?_⟩,h8,h9,h10⟩;generalize nth Bv n=l at *
 cases l with
 |nil=>simp at h4
 |cons c r=>exact⟨c,r,rfl,fun e=>h5 (by rw[e];rfl),fun e=>h7 (by rw[e];rfl)⟩
theorem Q9q:Word [101,108,115,101]:=⟨by decide,101,_,rfl,by decide,by decide⟩
mutual
def U1:DepT→List (List UInt8)
 |.mk k nm op ev args=>if k=1 then (if 0 < op then [nm,nth signsL op.toNat,ev] else [nm]) else [40]::(wordsJ k 0 args++[[41]])
def wordsJ (k:Int):Nat→List DepT→List (List UInt8)
 |_,[]=>[]
 |i,a::r=>(if 0 < i then [L3 k i] else [])++(U1 a++wordsJ k (i+1) r)
end
theorem Q9s {k:Int} {i:Nat} (h2:2≤k) (h6:k≤6):Word (L3 k i):=by
 unfold L3;split
 ·exact Q9q
 ·obtain⟨n,rfl⟩:∃n:Nat,k=n:=⟨k.toNat,by omega⟩
  rw[Int.toNat_natCast];exact(Q9o (by omega) (by omega)).1
theorem X6m {k:Int} {t:List UInt8} (ht:Stop t):∀(i:Nat) (l:List DepT),Stop (joinN k (i+1) l++t)
 |_,[]=>by simpa [joinN] using ht
 |i,a::r=>by
  unfold joinN Hh;rw[if_pos (by omega)];exact R4 _
mutual
theorem X0g:∀(d:DepT),Cu d=true→∀(t:List UInt8) (ws:List (List UInt8)),Stop t→Fm t ws→Fm (Fp d++t) (U1 d++ws)
 |.mk k nm op ev args,h,t,ws,ht,hw=>by
  unfold Fp U1;by_cases hk:k=1
  ·have hf:=Tr h hk;rw[if_pos hk,if_pos hk];split
   ·rename_i hop
    obtain⟨n,rfl⟩:∃n:Nat,op=n:=⟨op.toNat,by omega⟩
    have hs:=(Q9n (n:=n) (by omega) (by omega)).1;have he:=Q9p (hf.2.2.2.2.2 (by omega));simp only[List.append_assoc,List.cons_append,List.nil_append,Int.toNat_natCast];exact Pi (Zh hf.2.2.2.1) (R4 _) (Rt (Pi hs (R4 _) (Rt (Pi he ht hw))))
   ·exact Pi (Zh hf.2.2.2.1) ht hw
  ·have hf:=Ts h hk;rw[if_neg hk,if_neg hk];simp only[List.append_assoc,List.cons_append,List.nil_append];refine X0c ?_;exact join_toks k (by omega) (by omega) 0 args hf.2.2.2.2.2.2.2.2 _ _ (X0w t) (X0d hw)
theorem join_toks:∀(k:Int),2≤k→k≤6→∀(i:Nat) (l:List DepT),argsForm k l=true→∀(t:List UInt8) (ws:List (List UInt8)),Stop t→Fm t ws→Fm (joinN k i l++t) (wordsJ k i l++ws)
 |k,h2,h6,i,[],_,t,ws,_,hw=>by simpa [joinN,wordsJ] using hw
 |k,h2,h6,i,a::r,h,t,ws,ht,hw=>by
  unfold argsForm at h;simp only[Bool.and_eq_true] at h;have h1:=join_toks k h2 h6 (i+1) r h.2.2 t ws ht hw;have h3:=X0g a h.2.1 _ _ (X6m ht i r) h1;unfold joinN wordsJ Hh;split
  ·simp only[List.append_assoc,List.cons_append,List.nil_append];exact Rt (Pi (Q9s h2 h6) (R4 _) (Rt h3))
  ·simpa only [List.append_assoc,List.nil_append] using h3
end
mutual
theorem X0h:∀d:DepT,Cu d=true→(Fp d).length+20≤1000*El d
 |.mk k nm op ev args,h=>by
  unfold Fp El;by_cases hk:k=1
  ·have hf:=Tr h hk;have h1:=X4w hf.2.2.2.1;have h2:=Vl op.toNat;rw[if_pos hk,if_pos hk];split
   ·have h3:=X8q (hf.2.2.2.2.2 (by omega));simp only[List.length_append,List.length_cons,List.length_nil];omega
   ·omega
  ·have hf:=Ts h hk;rw[if_neg hk,if_neg hk];have h1:=join_short k 0 args hf.2.2.2.2.2.2.2.2;simp only[List.length_append,List.length_cons,List.length_nil];omega
theorem join_short:∀(k:Int) (i:Nat) (l:List DepT),argsForm k l=true→(joinN k i l).length+11*l.length≤1000*argsParts l
 |k,i,[],_=>by simp[joinN]
 |k,i,a::r,h=>by
  unfold argsForm at h;simp only[Bool.and_eq_true] at h;have h1:=X0h a h.2.1;have h2:=join_short k (i+1) r h.2.2;have h3:=Q0b k i;unfold joinN argsParts;simp only[List.length_append,List.length_cons];omega
end
namespace Sv
inductive AV where
 |bool (b:Bool)
 |int (k:IntKind) (n:Int)
 |str (l:List UInt8)
 |ptr (b off:Nat)
 |nilp
 |sl (b off len cap:Nat) (op:Bool)
 |nils
 |sle
 |map (b:Nat)
 |nilm
 |fn (f:Nat) (first cap:List AV)
 |nilf
 |ifc (t:Nat) (v:AV)
 |nili
 |agg (l:List AV)
 |tup (l:List AV)
 |raw (v:Value)
 |row (sz n:Nat) (g:Nat→AV)
 |fp (a:AV)
 |own (b:Nat)
 |cond (q:Bool) (a:AV)
 |op (b o:Nat)
 |smap (z:Value) (g:List UInt8→AV)
 |clo (a:AV)
structure Phi where
 m:Nat→Option (Nat × Nat)
 s:Nat→Option Value
 f:Nat→Option Obj
instance:CoeFun Phi (fun _=>Nat→Option (Nat × Nat)):=⟨Phi.m⟩
structure Phi.le (φ φ':Phi):Prop where
 m:∀b x,φ b=some x→φ' b=some x
 s:∀b x,φ.s b=some x→φ'.s b=some x
 f:∀b x,φ.f b=some x→φ'.f b=some x
theorem Phi.le_refl (φ:Phi):φ.le φ:=⟨fun _ _ h=>h,fun _ _ h=>h,fun _ _ h=>h⟩
theorem Phi.le_trans {a b c:Phi} (h:a.le b) (k:b.le c):a.le c:=⟨fun x y e=>k.m x y (h.m x y e),fun x y e=>k.s x y (h.s x y e),fun x y e=>k.f x y (h.f x y e)⟩
def LieAt (f:Nat→Option Obj) (b o:Nat) (us:List Value):Prop:=∃cs e fr,f b=some (.cells cs e fr)∧∀j u,us[j]? = some u→cs[o+j]? = some u∧u.oneCell'=true
theorem LieAt.mono {φ φ':Phi} (h:φ.le φ') {b o:Nat} {us:List Value} (k:LieAt φ.f b o us):LieAt φ'.f b o us:=by
 obtain⟨cs,e,fr,h1,h2⟩:=k;exact⟨cs,e,fr,h.f _ _ h1,h2⟩
def RowAt (f:Nat→Option Obj) (sz n:Nat) (u:Nat→Value) (v:Value):Prop :=
 (n=0∧(v = .slice none 0 0∨∃a c,v = .slice (some a) 0 c))∨∃b o c,v = .slice (some ⟨b,o,none⟩) n c∧n≤c∧∀i,i < n→(u i).cells.size=sz∧LieAt f b (o+i*sz) (u i).cells.toList
theorem RowAt.mono {φ φ':Phi} (h:φ.le φ') {sz n:Nat} {u:Nat→Value} {v:Value} (k:RowAt φ.f sz n u v):RowAt φ'.f sz n u v:=by
 rcases k with k|⟨b,o,c,rfl,k0,k⟩
 ·exact .inl k
 ·exact .inr ⟨b,o,c,rfl,k0,fun i hi=>⟨(k i hi).1,(k i hi).2.mono h⟩⟩
def Phi.fz (φ:Phi):Phi:=⟨fun _=>none,fun _=>none,φ.f⟩
theorem Phi.fz_le {φ φ':Phi} (h:φ.le φ'):φ.fz.le φ'.fz:=⟨fun _ _ e=>(by cases e),fun _ _ e=>(by cases e),h.f⟩
theorem Phi.le_fz (φ:Phi):φ.fz.le φ:=⟨fun _ _ e=>(by cases e),fun _ _ e=>(by cases e),fun _ _ e=>e⟩
def Qf:AV→Bool
 |.bool _=>true
 |_=>false
mutual
def VR:Phi→AV→Value→Prop
 |φ,.bool b,v=>v = .bool b
 |φ,.int k n,v=>v = .int k n
 |φ,.str l,v=>v = .string ⟨l.toArray⟩
 |φ,.ptr b o,v=>∃x κ,φ b=some (x,κ)∧v = .pointer (some ⟨x,o,none⟩)
 |φ,.nilp,v=>v = .pointer none
 |φ,.sl b o len cap op,v=>∃x κ,φ b=some (x,κ)∧((op=true∧cap+len≤κ∧v = .slice (some ⟨x,o,none⟩) len (κ-cap))∨(op=false∧v = .slice (some ⟨x,o,none⟩) len cap))
 |φ,.nils,v=>v = .slice none 0 0
 |φ,.sle,v=>∃a c,v = .slice (some a) 0 c
 |φ,.map b,v=>∃x κ,φ b=some (x,κ)∧v = .map (some x)
 |φ,.nilm,v=>v = .map none
 |φ,.fn f first cap,v=>∃vf vc,VRl φ first vf∧VRl φ cap vc∧v = .func (.func f) vf.toArray vc.toArray
 |φ,.nilf,v=>v = .nilFunc
 |φ,.ifc t a,v=>∃u,VR φ a u∧v = .iface t u
 |φ,.nili,v=>v = .nilIface
 |φ,.agg l,v=>∃vs,VRl φ l vs∧v = .agg vs.toArray
 |φ,.tup l,v=>∃vs,VRl φ l vs∧v = .tuple vs.toArray
 |φ,.raw u,v=>v=u
 |φ,.row sz n g,v=>∃u:Nat→Value,(∀i,i < n→VR φ.fz (g i) (u i))∧RowAt φ.f sz n u v
 |φ,.fp a,v=>∃b o u,v = .pointer (some ⟨b,o,none⟩)∧VR φ.fz a u∧LieAt φ.f b o u.cells.toList
 |φ,.own b,v=>φ.s b=some v∧∃a n c,v = .slice a n c
 |φ,.cond q a,v=>(q=true→VR φ a v)∧(Qf a=true→q=false→v=undef)
 |φ,.op b o,v=>∃hd k,φ.s b=some hd∧hd.ownBlock=some k∧v = .pointer (some ⟨k,o,none⟩)
 |φ,.clo a,v=>VR φ.fz a v∧∃g vc,v = .func (.func g) #[] vc
 |φ,.smap z g,v=>∃x es clk m,v = .map (some x)∧φ.f x=some (.map es clk)∧es.toList.map (fun e=>(e.key,e.val))=Ds S id m∧∀s,(∀u,Bj m s=some u→VR φ.fz (g s) u)∧(Bj m s=none→VR φ.fz (g s) z)
def VRl:Phi→List AV→List Value→Prop
 |φ,[],vs=>vs=[]
 |φ,a::l,vs=>∃v vs',vs=v::vs'∧VR φ a v∧VRl φ l vs'
end
mutual
theorem VR.mono':∀{a:AV} {φ φ':Phi} {v:Value},φ.le φ'→VR φ a v→VR φ' a v
 |.bool _,φ,φ',_,h,k=>k
 |.int _ _,φ,φ',_,h,k=>k
 |.str _,φ,φ',_,h,k=>k
 |.ptr _ _,φ,φ',_,h,k=>by
  simp only[VR] at k ⊢;obtain⟨x,κ,e,r⟩:=k;exact⟨x,κ,h.m _ _ e,r⟩
 |.nilp,φ,φ',_,h,k=>k
 |.sl _ _ _ _ _,φ,φ',_,h,k=>by
  simp only[VR] at k ⊢;obtain⟨x,κ,e,r⟩:=k;exact⟨x,κ,h.m _ _ e,r⟩
 |.nils,φ,φ',_,h,k=>k
 |.sle,φ,φ',_,h,k=>k
 |.map _,φ,φ',_,h,k=>by
  simp only[VR] at k ⊢;obtain⟨x,κ,e,r⟩:=k;exact⟨x,κ,h.m _ _ e,r⟩
 |.nilm,φ,φ',_,h,k=>k
 |.fn _ _ _,φ,φ',_,h,k=>by
  simp only[VR] at k ⊢;obtain⟨a,b,e1,e2,r⟩:=k;exact⟨a,b,VRl.mono' h e1,VRl.mono' h e2,r⟩
 |.nilf,φ,φ',_,h,k=>k
 |.ifc _ _,φ,φ',_,h,k=>by
  simp only[VR] at k ⊢;obtain⟨u,e,r⟩:=k;exact⟨u,VR.mono' h e,r⟩
 |.nili,φ,φ',_,h,k=>k
 |.agg _,φ,φ',_,h,k=>by
  simp only[VR] at k ⊢;obtain⟨u,e,r⟩:=k;exact⟨u,VRl.mono' h e,r⟩
 |.tup _,φ,φ',_,h,k=>by
  simp only[VR] at k ⊢;obtain⟨u,e,r⟩:=k;exact⟨u,VRl.mono' h e,r⟩
 |.raw _,φ,φ',_,h,k=>k
 |.row sz n g,φ,φ',_,h,k=>by
  simp only[VR] at k ⊢;obtain⟨u,k1,k2⟩:=k;exact⟨u,fun i hi=>VR.mono' (Phi.fz_le h) (k1 i hi),k2.mono h⟩
 |.fp a,φ,φ',_,h,k=>by
  simp only[VR] at k ⊢;obtain⟨b,o,u,e,k1,k2⟩:=k;exact⟨b,o,u,e,VR.mono' (Phi.fz_le h) k1,k2.mono h⟩
 |.own b,φ,φ',_,h,k=>by
  simp only[VR] at k ⊢;exact⟨h.s _ _ k.1,k.2⟩
 |.cond q a,φ,φ',_,h,k=>by
  simp only[VR] at k ⊢;exact⟨fun hq=>VR.mono' h (k.1 hq),k.2⟩
 |.op b o,φ,φ',_,h,k=>by
  simp only[VR] at k ⊢;obtain⟨hd,x,e,r⟩:=k;exact⟨hd,x,h.s _ _ e,r⟩
 |.clo a,φ,φ',_,h,k=>by
  simp only[VR] at k ⊢;exact⟨VR.mono' (Phi.fz_le h) k.1,k.2⟩
 |.smap z g,φ,φ',_,h,k=>by
  simp only[VR] at k ⊢;obtain⟨x,es,clk,m,e,e1,e2,e3⟩:=k;exact⟨x,es,clk,m,e,h.f _ _ e1,e2,fun s=>⟨fun u hu=>VR.mono' (Phi.fz_le h) ((e3 s).1 u hu),fun hu=>VR.mono' (Phi.fz_le h) ((e3 s).2 hu)⟩⟩
theorem VRl.mono':∀{l:List AV} {φ φ':Phi} {vs:List Value},φ.le φ'→VRl φ l vs→VRl φ' l vs
 |[],φ,φ',_,h,k=>k
 |_::_,φ,φ',_,h,k=>by
  simp only[VRl] at k ⊢;obtain⟨v,vs',e,e1,e2⟩:=k;exact⟨v,vs',e,VR.mono' h e1,VRl.mono' h e2⟩
end
theorem K0 {φ:Phi} {a:AV}:VR φ (.cond false a) undef:=by unfold VR;exact⟨fun e=>(by cases e),fun _ _=>rfl⟩
theorem Nf {φ:Phi} {a:AV} {v:Value} (h:VR φ a v):VR φ (.cond true a) v:=by unfold VR;exact⟨fun _=>h,fun _ e=>(by cases e)⟩
theorem VR.condT {φ:Phi} {q:Bool} {a:AV} {v:Value} (h:VR φ (.cond q a) v) (hq:q=true):VR φ a v:=by unfold VR at h;exact h.1 hq
theorem VR.mono {φ φ':Phi} (h:φ.le φ') {a:AV} {v:Value} (k:VR φ a v):VR φ' a v:=VR.mono' h k
theorem VRl.mono {φ φ':Phi} (h:φ.le φ') {l:List AV} {vs:List Value} (k:VRl φ l vs):VRl φ' l vs:=VRl.mono' h k
section
variable {φ : Phi}
theorem VR.ofBool (q:Bool):VR φ (.bool q) (.bool q):=by simp[VR]
theorem VR.ofStr (l:List UInt8):VR φ (.str l) (.string ⟨l.toArray⟩):=by simp[VR]
theorem VRl.nil:VRl φ [] []:=by simp[VRl]
theorem VRl.cons {a:AV} {v:Value} {l:List AV} {vs:List Value} (h:VR φ a v) (k:VRl φ l vs):VRl φ (a::l) (v::vs):=by
 simp only[VRl];exact⟨v,vs,rfl,h,k⟩
theorem VRl.cons_inv {a:AV} {l:List AV} {vs:List Value} (h:VRl φ (a::l) vs):∃v vs',vs=v::vs'∧VR φ a v∧VRl φ l vs':=by
 simpa only [VRl] using h
theorem VRl.nil_inv {vs:List Value} (h:VRl φ [] vs):vs=[]:=by simpa only [VRl] using h
theorem VRl.length:∀{l:List AV} {vs:List Value},VRl φ l vs→vs.length=l.length
 |[],_,h=>by rw[h.nil_inv];rfl
 |_::_,_,h=>by obtain⟨v,vs',rfl,_,k⟩:=h.cons_inv;simp[VRl.length k]
theorem VRl.append:∀{l l':List AV} {vs vs':List Value},VRl φ l vs→VRl φ l' vs'→VRl φ (l++l') (vs++vs')
 |[],_,_,_,h,k=>by rw[h.nil_inv];exact k
 |_::_,_,_,_,h,k=>by obtain⟨v,vs',rfl,h1,h2⟩:=h.cons_inv;exact .cons h1 (VRl.append h2 k)
theorem VRl.take:∀{l:List AV} {vs:List Value} (n:Nat),VRl φ l vs→VRl φ (l.take n) (vs.take n)
 |_,_,0,_=>by simp only[List.take_zero];exact .nil
 |[],_,n+1,h=>by rw[h.nil_inv];simp only[List.take_nil];exact .nil
 |_::_,_,n+1,h=>by obtain⟨v,vs',rfl,h1,h2⟩:=h.cons_inv;simp only[List.take_succ_cons];exact .cons h1 (VRl.take n h2)
theorem VRl.drop:∀{l:List AV} {vs:List Value} (n:Nat),VRl φ l vs→VRl φ (l.drop n) (vs.drop n)
 |_,_,0,h=>by simpa only [List.drop_zero] using h
 |[],_,n+1,h=>by rw[h.nil_inv];simp only[List.drop_nil];exact .nil
 |_::_,_,n+1,h=>by obtain⟨v,vs',rfl,h1,h2⟩:=h.cons_inv;simp only[List.drop_succ_cons];exact VRl.drop n h2
theorem VRl.get:∀{l:List AV} {vs:List Value} {i:Nat} {a:AV},VRl φ l vs→l[i]? = some a→∃v,vs[i]? = some v∧VR φ a v
 |[],_,_,_,_,e=>by simp at e
 |_::_,_,0,_,h,e=>by obtain⟨v,vs',rfl,h1,_⟩:=h.cons_inv;simp at e;subst e;exact⟨v,by simp,h1⟩
 |_::_,_,i+1,_,h,e=>by obtain⟨v,vs',rfl,_,h2⟩:=h.cons_inv;simp only[List.getElem?_cons_succ] at e ⊢;exact VRl.get h2 e
theorem VRl.single {a:AV} {v:Value} (h:VR φ a v):VRl φ [a] [v]:=.cons h .nil
end
noncomputable def one:AV→Bool
 |.agg _=>false
 |.tup _=>false
 |.raw (.agg _)=>false
 |.raw (.tuple _)=>false
 |.cond _ _=>false
 |_=>true
noncomputable def ones:List AV→Bool
 |[]=>true
 |a::l=>one a&&ones l
theorem VR.one {φ:Phi}:∀{a:AV} {v:Value},VR φ a v→Sv.one a=true→v.oneCell'=true∧v.cells = #[v]:=by
 intro a v h h1;cases a<;>simp only[VR] at h<;>(try simp only[Sv.one,Bool.false_eq_true] at h1)
 case raw u =>
  subst h
  cases v<;>first|exact⟨rfl,rfl⟩|simp[Sv.one] at h1
 case ptr=>obtain⟨x,κ,_,rfl⟩:=h;exact⟨rfl,rfl⟩
 case row=>obtain⟨u,_,⟨_,rfl|⟨a,c,rfl⟩⟩|⟨b,o,c,rfl,_⟩⟩:=h<;>exact⟨rfl,rfl⟩
 case fp=>obtain⟨b,o,u,rfl,_⟩:=h;exact⟨rfl,rfl⟩
 case own=>obtain⟨_,a,n,c,rfl⟩:=h;exact⟨rfl,rfl⟩
 case op=>obtain⟨_,_,_,_,rfl⟩:=h;exact⟨rfl,rfl⟩
 case smap=>obtain⟨_,_,_,_,rfl,_⟩:=h;exact⟨rfl,rfl⟩
 case clo=>obtain⟨_,_,_,rfl⟩:=h;exact⟨rfl,rfl⟩
 case sl=>obtain⟨x,κ,_,⟨_,_,rfl⟩|⟨_,rfl⟩⟩:=h<;>exact⟨rfl,rfl⟩
 case map=>obtain⟨x,κ,_,rfl⟩:=h;exact⟨rfl,rfl⟩
 case sle=>obtain⟨x,κ,rfl⟩:=h;exact⟨rfl,rfl⟩
 case fn=>obtain⟨x,κ,_,_,rfl⟩:=h;exact⟨rfl,rfl⟩
 case ifc=>obtain⟨x,_,rfl⟩:=h;exact⟨rfl,rfl⟩
 all_goals (subst h;exact⟨rfl,rfl⟩)
theorem VRl.ones {φ:Phi}:∀{l:List AV} {vs:List Value},VRl φ l vs→Sv.ones l=true→∀v∈vs,v.oneCell'=true
 |[],_,h,_=>by rw[h.nil_inv];simp
 |a::l,_,h,k=>by
  obtain⟨v,vs',rfl,h1,h2⟩:=h.cons_inv;simp only[Sv.ones,Bool.and_eq_true] at k;intro u hu;rcases List.mem_cons.1 hu with rfl|hu
  ·exact(h1.one k.1).1
  ·exact VRl.ones h2 k.2 u hu
noncomputable def cellsOf:AV→List AV
 |.agg l=>l
 |a=>[a]
noncomputable def Et:AV→Bool
 |.raw (.agg _)=>true
 |.cond _ _=>true
 |_=>false
theorem VR.cells {φ:Phi} {a:AV} {v:Value} (h:VR φ a v) (hr:Et a=false):VRl φ (cellsOf a) v.cells.toList:=by
 by_cases h1:Sv.one a=true
 ·have:cellsOf a=[a]:=by cases a<;>first|rfl|simp[Sv.one] at h1
  rw[this,(h.one h1).2];exact .single h
 ·cases a<;>simp only[Sv.one,not_true_eq_false] at h1
  case agg l=>simp only[VR] at h;obtain⟨vs,h,rfl⟩:=h;simpa [cellsOf,Value.cells] using h
  case tup l =>
   have h':=h;simp only[VR] at h;obtain⟨vs,_,rfl⟩:=h;exact .single h'
  case raw u =>
   have h':=h;simp only[VR] at h;subst h;cases v<;>simp[Sv.one,Et] at h1 hr;exact .single h'
  case cond=>simp[Et] at hr
mutual
noncomputable def frz:AV→Bool
 |.ptr _ _=>false
 |.sl _ _ _ _ _=>false
 |.map _=>false
 |.own _=>false
 |.op _ _=>false
 |.fn _ first cap=>frzl first&&frzl cap
 |.ifc _ a=>frz a
 |.agg l=>frzl l
 |.tup l=>frzl l
 |.cond _ a=>frz a
 |_=>true
noncomputable def frzl:List AV→Bool
 |[]=>true
 |a::l=>frz a&&frzl l
end
mutual
theorem VR.fz:∀{a:AV} {φ:Phi} {v:Value},VR φ a v→frz a=true→VR φ.fz a v
 |.bool _,_,_,k,_=>k
 |.int _ _,_,_,k,_=>k
 |.str _,_,_,k,_=>k
 |.ptr _ _,_,_,k,h=>by cases h
 |.nilp,_,_,k,_=>k
 |.sl _ _ _ _ _,_,_,k,h=>by cases h
 |.nils,_,_,k,_=>k
 |.sle,_,_,k,_=>k
 |.map _,_,_,k,h=>by cases h
 |.nilm,_,_,k,_=>k
 |.fn _ _ _,φ,_,k,h=>by
  simp only[VR] at k ⊢;simp only[frz,Bool.and_eq_true] at h;obtain⟨a,b,e1,e2,r⟩:=k;exact⟨a,b,VRl.fz e1 h.1,VRl.fz e2 h.2,r⟩
 |.nilf,_,_,k,_=>k
 |.ifc _ _,φ,_,k,h=>by
  simp only[VR] at k ⊢;simp only[frz] at h;obtain⟨u,e,r⟩:=k;exact⟨u,VR.fz e h,r⟩
 |.nili,_,_,k,_=>k
 |.agg _,φ,_,k,h=>by
  simp only[VR] at k ⊢;simp only[frz] at h;obtain⟨u,e,r⟩:=k;exact⟨u,VRl.fz e h,r⟩
 |.tup _,φ,_,k,h=>by
  simp only[VR] at k ⊢;simp only[frz] at h;obtain⟨u,e,r⟩:=k;exact⟨u,VRl.fz e h,r⟩
 |.raw _,_,_,k,_=>k
 |.row _ _ _,φ,_,k,_=>by simp only[VR] at k ⊢;exact k
 |.fp _,φ,_,k,_=>by simp only[VR] at k ⊢;exact k
 |.own _,_,_,k,h=>by cases h
 |.op _ _,_,_,k,h=>by cases h
 |.smap _ _,φ,_,k,_=>by simp only[VR] at k ⊢;exact k
 |.clo _,φ,_,k,_=>by simp only[VR] at k ⊢;exact k
 |.cond _ _,φ,_,k,h=>by
  simp only[VR] at k ⊢;simp only[frz] at h;exact⟨fun q=>VR.fz (k.1 q) h,k.2⟩
theorem VRl.fz:∀{l:List AV} {φ:Phi} {vs:List Value},VRl φ l vs→frzl l=true→VRl φ.fz l vs
 |[],_,_,k,_=>k
 |_::_,φ,_,k,h=>by
  simp only[VRl] at k ⊢;simp only[frzl,Bool.and_eq_true] at h;obtain⟨v,vs',e,e1,e2⟩:=k;exact⟨v,vs',e,VR.fz e1 h.1,VRl.fz e2 h.2⟩
end
def Phi.cut (φ:Phi) (n:Nat):Phi:=⟨fun b=>if b < n then φ b else none,fun b=>if b < n then φ.s b else none,φ.f⟩
mutual
noncomputable def low (n:Nat):AV→Bool
 |.ptr b _=>Nat.ble (b+1) n
 |.sl b _ _ _ _=>Nat.ble (b+1) n
 |.map b=>Nat.ble (b+1) n
 |.own b=>Nat.ble (b+1) n
 |.op b _=>Nat.ble (b+1) n
 |.fn _ first cap=>lowl n first&&lowl n cap
 |.ifc _ a=>low n a
 |.agg l=>lowl n l
 |.tup l=>lowl n l
 |.cond _ a=>low n a
 |_=>true
noncomputable def lowl (n:Nat):List AV→Bool
 |[]=>true
 |a::l=>low n a&&lowl n l
end
theorem Phi.cut_m {φ:Phi} {n b:Nat} (h:Nat.ble (b+1) n=true):(φ.cut n) b=φ b:=if_pos (Nat.le_of_ble_eq_true h)
theorem Phi.cut_s {φ:Phi} {n b:Nat} (h:Nat.ble (b+1) n=true):(φ.cut n).s b=φ.s b:=if_pos (Nat.le_of_ble_eq_true h)
mutual
theorem VR.cut {n:Nat}:∀{a:AV} {φ:Phi} {v:Value},VR φ a v→low n a=true→VR (φ.cut n) a v
 |.bool _,_,_,k,_=>k
 |.int _ _,_,_,k,_=>k
 |.str _,_,_,k,_=>k
 |.ptr _ _,_,_,k,h=>by simp only[VR] at k ⊢;rw[Phi.cut_m h];exact k
 |.nilp,_,_,k,_=>k
 |.sl _ _ _ _ _,_,_,k,h=>by simp only[VR] at k ⊢;rw[Phi.cut_m h];exact k
 |.nils,_,_,k,_=>k
 |.sle,_,_,k,_=>k
 |.map _,_,_,k,h=>by simp only[VR] at k ⊢;rw[Phi.cut_m h];exact k
 |.nilm,_,_,k,_=>k
 |.fn _ _ _,φ,_,k,h=>by
  simp only[VR] at k ⊢;simp only[low,Bool.and_eq_true] at h;obtain⟨a,b,e1,e2,r⟩:=k;exact⟨a,b,VRl.cut e1 h.1,VRl.cut e2 h.2,r⟩
 |.nilf,_,_,k,_=>k
 |.ifc _ _,φ,_,k,h=>by
  simp only[VR] at k ⊢;simp only[low] at h;obtain⟨u,e,r⟩:=k;exact⟨u,VR.cut e h,r⟩
 |.nili,_,_,k,_=>k
 |.agg _,φ,_,k,h=>by
  simp only[VR] at k ⊢;simp only[low] at h;obtain⟨u,e,r⟩:=k;exact⟨u,VRl.cut e h,r⟩
 |.tup _,φ,_,k,h=>by
  simp only[VR] at k ⊢;simp only[low] at h;obtain⟨u,e,r⟩:=k;exact⟨u,VRl.cut e h,r⟩
 |.raw _,_,_,k,_=>k
 |.row _ _ _,φ,_,k,_=>by simp only[VR] at k ⊢;exact k
 |.fp _,φ,_,k,_=>by simp only[VR] at k ⊢;exact k
 |.own _,_,_,k,h=>by simp only[VR] at k ⊢;rw[Phi.cut_s h];exact k
 |.op _ _,_,_,k,h=>by simp only[VR] at k ⊢;rw[Phi.cut_s h];exact k
 |.smap _ _,φ,_,k,_=>by simp only[VR] at k ⊢;exact k
 |.clo _,φ,_,k,_=>by simp only[VR] at k ⊢;exact k
 |.cond _ _,φ,_,k,h=>by
  simp only[VR] at k ⊢;simp only[low] at h;exact⟨fun q=>VR.cut (k.1 q) h,k.2⟩
theorem VRl.cut {n:Nat}:∀{l:List AV} {φ:Phi} {vs:List Value},VRl φ l vs→lowl n l=true→VRl (φ.cut n) l vs
 |[],_,_,k,_=>k
 |_::_,φ,_,k,h=>by
  simp only[VRl] at k ⊢;simp only[lowl,Bool.and_eq_true] at h;obtain⟨v,vs',e,e1,e2⟩:=k;exact⟨v,vs',e,VR.cut e1 h.1,VRl.cut e2 h.2⟩
end
theorem I8 {a b:Nat} (h:a≠b):Nat.beq a b=false:=by rw[Bool.eq_false_iff];intro h';exact h (Nat.eq_of_beq_eq_true h')
theorem D2 (a b:Nat):(Nat.beq a b=true∧a=b)∨(Nat.beq a b=false∧a≠b):=by
 by_cases h:a=b
 ·exact .inl ⟨by rw[h];exact Nat.beq_refl b,h⟩
 ·exact .inr ⟨I8 h,h⟩
noncomputable def ofS:Value→Option AV
 |.bool b=>some (.bool b)
 |.int k n=>some (.int k n)
 |.string s=>some (.str s.data.toList)
 |.float k b=>some (.raw (.float k b))
 |.complex k a b=>some (.raw (.complex k a b))
 |.pointer none=>some .nilp
 |.slice none 0 0=>some .nils
 |.map none=>some .nilm
 |.nilFunc=>some .nilf
 |.nilIface=>some .nili
 |_=>none
noncomputable def S1:List Value→Option (List AV)
 |[]=>some []
 |v::l=>match ofS v with
  |some a=>match S1 l with
   |some b=>some (a::b)
   |none=>none
  |none=>none
noncomputable def ofV:Value→Option AV
 |.agg cs=>match S1 cs.toList with
  |some l=>some (.agg l)
  |none=>none
 |.tuple cs=>match cs.toList with
  |[]=>some (.tup [])
  |_=>none
 |v=>ofS v
theorem Q2f {φ:Phi} {v:Value} {a:AV} (h:ofS v=some a):VR φ a v:=by
 unfold ofS at h
 split at h<;>first|(cases h;simp[VR];done)|cases h
theorem Q2e {φ:Phi}:∀{l:List Value} {avs:List AV},S1 l=some avs→VRl φ avs l
 |[],_,h=>by cases h;exact .nil
 |v::l,_,h=>by
  unfold S1 at h;split at h
  ·rename_i a ha;split at h
   ·rename_i b hb;cases h;exact .cons (Q2f ha) (Q2e hb)
   ·cases h
  ·cases h
theorem Q2d {φ:Phi} {v:Value} {a:AV} (h:ofV v=some a):VR φ a v:=by
 unfold ofV at h;split at h
 ·rename_i cs;split at h
  ·rename_i l hl;cases h;simp only[VR];exact⟨cs.toList,Q2e hl,by simp⟩
  ·cases h
 ·rename_i cs;split at h
  ·rename_i hl;cases h;simp only[VR];refine⟨[],.nil,?_⟩
   have:cs = #[]:=by apply Array.ext';simpa using hl
   rw[this]
  ·cases h
 ·exact Q2f h
noncomputable def pr {α:Type} (P:Program):Sem α→Option α
 |.pure a=>some a
 |.program k=>pr P (k P)
 |.mark _ k=>pr P k
 |_=>none
theorem V4 {α:Type} {P:Program}:∀{s:Sem α} {a:α},pr P s=some a→∀w,s.run P w = .ok a w:=by
 intro s
 induction s with
 |pure a=>intro b h w;simp only[pr,Option.some.injEq] at h;subst h;rfl
 |program k ih=>intro b h w;simp only[pr] at h;exact ih P h w
 |mark m k ih=>intro b h w;simp only[pr] at h;exact ih h w
 |_=>intro b h;simp[pr] at h
noncomputable def tsz (P:Program) (t:Nat):Option Nat:=match P.info? t with
 |some i=>some i.size
 |none=>none
theorem C4 {P:Program} {t n:Nat} (h:tsz P t=some n) (w:World):(sizeOf t).run P w = .ok n w:=by
 unfold tsz at h;split at h
 ·rename_i i hi;cases h;simp[sizeOf,typeInfo,hi,go_sem]
 ·cases h
noncomputable def Hz (P:Program) (t:Nat):Option Bool:=match P.underlying t with
 |some (.struct _)=>some true
 |some (.array _ _)=>some true
 |some _=>some false
 |none=>none
theorem Kw {P:Program} {t:Nat} {b:Bool} (h:Hz P t=some b) (w:World):(isAgg t).run P w = .ok b w:=by
 unfold Hz at h;split at h
 ·rename_i d hd;cases h;simp[isAgg,run_underlying hd,go_sem]
 ·rename_i d hd;cases h;simp[isAgg,run_underlying hd,go_sem]
 ·rename_i d h1 h2 hd;cases h
  cases d<;>first|(simp[isAgg,run_underlying hd,go_sem];done)|exact(h1 _ rfl).elim|exact(h2 _ _ rfl).elim
 ·cases h
noncomputable def Jc (P:Program) (t:Nat):Option AV:=match P.info? t with
 |some i=>match i.zero with
  |some z=>ofV z
  |none=>none
 |none=>none
theorem K5 {P:Program} {t:Nat} {a:AV} (h:Jc P t=some a) {φ:Phi}:∃v,(∀w,(zeroValue t).run P w = .ok v w)∧VR φ a v:=by
 unfold Jc at h;split at h
 ·rename_i i hi;split at h
  ·rename_i z hz;exact⟨z,fun w=>by simp[zeroValue,typeInfo,hi,hz,go_sem],Q2d h⟩
  ·cases h
 ·cases h
noncomputable def Sq (P:Program) (t:Nat) (l:List AV) (off:Nat):Option AV:=match Hz P t with
 |some true=>match tsz P t with
  |some n=>some (.agg ((l.drop off).take n))
  |none=>none
 |some false=>l[off]?
 |none=>none
theorem Q1f {P:Program} {t off:Nat} {l:List AV} {a:AV} {φ:Phi} {vs:List Value} (h:Sq P t l off=some a) (hl:VRl φ l vs):∃v,(∀w,(part t vs.toArray off).run P w = .ok v w)∧VR φ a v:=by
 unfold Sq at h;split at h
 ·rename_i ha;split at h
  ·rename_i n hn;cases h;refine⟨.agg ((vs.drop off).take n).toArray,fun w=>?_,by simp only[VR];exact⟨_,(hl.drop off).take n,rfl⟩⟩
   have:vs.toArray.extract off (off+n)=((vs.drop off).take n).toArray:=by
    apply Array.ext';simp[List.take_drop]
   simp[part,Kw ha,C4 hn,this,go_sem]
  ·cases h
 ·rename_i ha;obtain⟨v,hv,hr⟩:=hl.get h;exact⟨v,fun w=>by simp[part,Kw ha,hv,go_sem],hr⟩
 ·cases h
noncomputable def putCells:List AV→Nat→List AV→List AV
 |l,_,[]=>l
 |l,o,a::r=>putCells (l.set o a) (o+1) r
noncomputable def Oq (place:Nat→Option (Nat × Nat)) (cells:List AV):List (Nat × AV)→Option (List AV)
 |[]=>some cells
 |(i,a)::rest=>match place i with
  |none=>none
  |some (off,size) =>
   bif Nat.beq (cellsOf a).length size&&Nat.ble (off+(cellsOf a).length) cells.length&&!Et a then Oq place (putCells cells off (cellsOf a)) rest else none
theorem VRl.set {φ:Phi}:∀{l:List AV} {vs:List Value} (i:Nat) {a:AV} {v:Value},VRl φ l vs→VR φ a v→VRl φ (l.set i a) (vs.set i v)
 |[],_,_,_,_,h,_=>by rw[h.nil_inv];simp only[List.set_nil];exact .nil
 |_::_,_,0,_,_,h,k=>by obtain⟨v,vs',rfl,h1,h2⟩:=h.cons_inv;simp only[List.set_cons_zero];exact .cons k h2
 |_::_,_,i+1,_,_,h,k=>by obtain⟨v,vs',rfl,h1,h2⟩:=h.cons_inv;simp only[List.set_cons_succ];exact .cons h1 (VRl.set i h2 k)
theorem Q4o (φ:Phi):∀(avs:List AV) (us:List Value) (l:List AV) (cs:Array Value) (o j:Nat),VRl φ avs us→VRl φ l cs.toList →
  VRl φ (putCells l (o+j) avs) ((us.zipIdx j).foldl (fun cs (c,j)=>cs.setIfInBounds (o+j) c) cs).toList
 |[],us,l,cs,o,j,h,k=>by rw[h.nil_inv];simpa [putCells] using k
 |a::avs,_,l,cs,o,j,h,k=>by
  obtain⟨v,us,rfl,h1,h2⟩:=h.cons_inv;simp only[putCells,List.zipIdx_cons,List.foldl_cons];rw[Nat.add_assoc];refine Q4o φ avs us _ _ o (j+1) h2 ?_;rw[Array.toList_setIfInBounds];exact k.set _ h1
def NR (φ:Phi):List (Nat × AV)→List (Nat × Value)→Prop
 |[],l=>l=[]
 |(i,a)::r,l=>∃v l',l=(i,v)::l'∧VR φ a v∧NR φ r l'
theorem Tw {φ:Phi} (place:Nat→Option (Nat × Nat)):∀(ps:List (Nat × AV)) (qs:List (Nat × Value)) (l:List AV) (cs:Array Value) (r:List AV),Oq place l ps=some r→NR φ ps qs→VRl φ l cs.toList →
  ∃rs:Array Value,Instr.fill place cs qs=some rs∧VRl φ r rs.toList
 |[],qs,l,cs,r,h,k,hl=>by
  simp only[NR] at k;subst k;cases h;exact⟨cs,rfl,hl⟩
 |(i,a)::ps,qs,l,cs,r,h,k,hl=>by
  simp only[NR] at k;obtain⟨v,l',rfl,h1,h2⟩:=k;unfold Oq at h;unfold Instr.fill
  cases hp:place i with
  |none=>rw[hp] at h;cases h
  |some x =>
   obtain⟨off,size⟩:=x;rw[hp] at h;simp only at h ⊢
   cases hb:(Nat.beq (cellsOf a).length size&&Nat.ble (off+(cellsOf a).length) l.length&&!Et a) with
   |false=>rw[hb] at h;cases h
   |true =>
    rw[hb,cond_true] at h;simp only[Bool.and_eq_true,Bool.not_eq_true'] at hb;obtain⟨⟨hb1,hb2⟩,hb3⟩:=hb;have hc:=h1.cells hb3
    have e1:v.cells.size=size:=by have:=hc.length;simp only[Array.length_toList] at this;rw[this];exact Nat.eq_of_beq_eq_true hb1
    have e2:¬(off+v.cells.size > cs.size):=by
     have:=hc.length;simp only[Array.length_toList] at this;have h3:=hl.length;simp only[Array.length_toList] at h3;have:=Nat.le_of_ble_eq_true hb2;omega
    have e3:(v.cells.size≠size||off+v.cells.size > cs.size)=false:=by simp[e1];omega
    rw[if_neg (by simp[e1];rw[e1] at e2;omega)];refine Tw place ps l' _ _ r h h2 ?_;have:=Q4o φ (cellsOf a) v.cells.toList l cs off 0 hc hl;rw[←Array.foldl_toList,Array.toList_zipIdx];simpa using this
section
variable (P : Program) (ev : Operand → Option AV)
noncomputable def toV:AV→Option Value
 |.bool b=>some (.bool b)
 |.int k n=>some (.int k n)
 |.raw v=>some v
 |_=>none
noncomputable def sc (x:Operand):Value:=match ev x with
 |some a=>match toV a with
  |some v=>v
  |none=>undef
 |none=>undef
noncomputable def Wt (x:Operand):Bool:=match ev x with
 |some a=>match toV a with
  |some _=>true
  |none=>false
 |none=>false
noncomputable def Q7:List Operand→Bool
 |[]=>true
 |x::l=>Wt ev x&&Q7 l
noncomputable def P1:Value→Option AV
 |.bool b=>some (.bool b)
 |.int k n=>some (.int k n)
 |.float k b=>some (.raw (.float k b))
 |.complex k a b=>some (.raw (.complex k a b))
 |.string s=>some (.str s.data.toList)
 |_=>none
noncomputable def N6:Op→Bool
 |.select _ _=>false
 |_=>true
noncomputable def Jh (o:Oper):Option AV:=bif N6 o.op&&Q7 ev o.op.operands.toList then match pr P (execOp (sc ev) o) with
 |some (.value v)=>P1 v
 |_=>none else none
noncomputable def U5:AV→Option Value
 |.str l=>some (.string ⟨l.toArray⟩)
 |.nilp=>some (.pointer none)
 |.nilm=>some (.map none)
 |.nilf=>some .nilFunc
 |.nili=>some .nilIface
 |a=>toV a
noncomputable def Rv:List AV→Option (List Value)
 |[]=>some []
 |a::l=>match U5 a with
  |some v=>match Rv l with
   |some r=>some (v::r)
   |none=>none
  |none=>none
noncomputable def Ru:AV→Option Value
 |.str l=>some (.string ⟨l.toArray⟩)
 |.fn f [] []=>some (.func (.func f) #[] #[])
 |.agg l=>match Rv l with
  |some r=>some (.agg r.toArray)
  |none=>none
 |a=>toV a
noncomputable def scS (x:Operand):Value:=match ev x with
 |some a=>match Ru a with
  |some v=>v
  |none=>undef
 |none=>undef
noncomputable def Ws (x:Operand):Bool:=match ev x with
 |some a=>match Ru a with
  |some _=>true
  |none=>false
 |none=>false
noncomputable def M7:List Operand→Bool
 |[]=>true
 |x::l=>Ws ev x&&M7 l
noncomputable def Q7g (f:Nat):Bool:=match P.funcs[f]? with
 |some fn=>fn.body.isNone
 |none=>false
noncomputable def Vs (o:Oper):Option AV:=bif N6 o.op&&M7 ev o.op.operands.toList then match pr P (execOp (scS ev) o) with
 |some (.value v)=>P1 v
 |_=>none else none
noncomputable def Xb (o:Oper):Option AV:=match o.op with
 |.call c=>match c.callee with
  |.value x=>match ev x with
   |some (.fn f [] [])=>bif Q7g P f&&M7 ev o.op.operands.toList then match pr P (execOp (scS ev) o) with
     |some (.value v)=>P1 v
     |_=>none else none
   |_=>none
  |_=>none
 |_=>none
end
def EVR (φ:Phi) (ev:Operand→Option AV) (ρ:Operand→Value):Prop:=∀x a,ev x=some a→VR φ a (ρ x)
section
variable {P : Program} {ev : Operand → Option AV} {φ : Phi} {ρ : Operand → Value}
theorem U4 {a:AV} {v u:Value} (h:toV a=some v) (k:VR φ a u):u=v:=by
 cases a<;>simp only[toV,Option.some.injEq,reduceCtorEq] at h<;>subst h<;>simpa only [VR] using k
theorem X6p (hev:EVR φ ev ρ) {x:Operand} (h:Wt ev x=true):sc ev x=ρ x:=by
 unfold Wt at h;unfold sc;split at h
 ·rename_i a ha;split at h
  ·rename_i v hv;exact(U4 hv (hev _ _ ha)).symm
  ·cases h
 ·cases h
theorem Q8a (hev:EVR φ ev ρ):∀{l:List Operand},Q7 ev l=true→∀x∈l,sc ev x=ρ x
 |[],_=>by simp
 |y::l,h=>by
  simp only[Q7,Bool.and_eq_true] at h;intro x hx;rcases List.mem_cons.1 hx with rfl|hx
  ·exact X6p hev h.1
  ·exact Q8a hev h.2 x hx
theorem Wa {v:Value} {a:AV} (h:P1 v=some a):VR φ a v:=by
 unfold P1 at h
 split at h<;>first|(cases h;simp[VR];done)|cases h
def Pc (P:Program) (φ:Phi) (ρ:Operand→Value) (o:Oper) (a:AV):Prop:=∃v,(∀w,(execOp ρ o).run P w = .ok (.value v) w)∧VR φ a v
theorem Sd (hev:EVR φ ev ρ) {o:Oper} {a:AV} (h:Jh P ev o=some a):Pc P φ ρ o a:=by
 unfold Jh at h
 cases hb:(N6 o.op&&Q7 ev o.op.operands.toList) with
 |false=>rw[hb] at h;cases h
 |true =>
  rw[hb,cond_true] at h;simp only[Bool.and_eq_true] at hb;split at h
  ·rename_i v hv;refine⟨v,fun w=>?_,Wa h⟩;have he:execOp ρ o=execOp (sc ev) o:=execOp_congr o (fun cs b e=>by rw[e] at hb;simp[N6] at hb) (fun x hx=>(Q8a hev hb.2 x (by simpa using hx)).symm);rw[he];exact V4 hv w
  ·cases h
theorem X0f {a:AV} {v u:Value} (h:U5 a=some v) (k:VR φ a u):u=v:=by
 unfold U5 at h
 split at h<;>first|(cases h;simpa only [VR] using k)|exact U4 h k
theorem Zn:∀{l:List AV} {vs us:List Value},Rv l=some vs→VRl φ l us→us=vs
 |[],_,_,h,k=>by cases h;exact k.nil_inv
 |a::l,_,_,h,k=>by
  unfold Rv at h;split at h
  ·rename_i v hv;split at h
   ·rename_i r hr;cases h;obtain⟨u,us',rfl,k1,k2⟩:=k.cons_inv;rw[X0f hv k1,Zn hr k2]
   ·cases h
  ·cases h
theorem X0e {a:AV} {v u:Value} (h:Ru a=some v) (k:VR φ a u):u=v:=by
 unfold Ru at h;split at h
 ·cases h;simpa only [VR] using k
 ·cases h;simp only[VR] at k;obtain⟨vf,vc,h1,h2,k⟩:=k;rw[h1.nil_inv,h2.nil_inv] at k;exact k
 ·split at h
  ·rename_i r hr;cases h;simp only[VR] at k;obtain⟨us,k1,k⟩:=k;rw[Zn hr k1] at k;exact k
  ·cases h
 ·exact U4 h k
theorem X6q (hev:EVR φ ev ρ) {x:Operand} (h:Ws ev x=true):scS ev x=ρ x:=by
 unfold Ws at h;unfold scS;split at h
 ·rename_i a ha;split at h
  ·rename_i v hv;exact(X0e hv (hev _ _ ha)).symm
  ·cases h
 ·cases h
theorem Yi (hev:EVR φ ev ρ):∀{l:List Operand},M7 ev l=true→∀x∈l,scS ev x=ρ x
 |[],_=>by simp
 |y::l,h=>by
  simp only[M7,Bool.and_eq_true] at h;intro x hx;rcases List.mem_cons.1 hx with rfl|hx
  ·exact X6q hev h.1
  ·exact Yi hev h.2 x hx
theorem X10 (hev:EVR φ ev ρ) {o:Oper} {a:AV} (h:Vs P ev o=some a):Pc P φ ρ o a:=by
 unfold Vs at h
 cases hb:(N6 o.op&&M7 ev o.op.operands.toList) with
 |false=>rw[hb] at h;cases h
 |true =>
  rw[hb,cond_true] at h;simp only[Bool.and_eq_true] at hb;split at h
  ·rename_i v hv;refine⟨v,fun w=>?_,Wa h⟩;have he:execOp ρ o=execOp (scS ev) o:=execOp_congr o (fun cs b e=>by rw[e] at hb;simp[N6] at hb) (fun x hx=>(Yi hev hb.2 x (by simpa using hx)).symm);rw[he];exact V4 hv w
  ·cases h
theorem X8o (hev:EVR φ ev ρ) {o:Oper} {a:AV} (h:Xb P ev o=some a):Pc P φ ρ o a:=by
 unfold Xb at h;split at h
 ·rename_i c hop;split at h
  ·split at h
   ·rename_i f _
    cases hb:(Q7g P f&&M7 ev o.op.operands.toList) with
    |false=>rw[hb] at h;cases h
    |true =>
     rw[hb,cond_true] at h;simp only[Bool.and_eq_true] at hb;split at h
     ·rename_i v hv;refine⟨v,fun w=>?_,Wa h⟩;have he:execOp ρ o=execOp (scS ev) o:=execOp_congr o (fun cs b e=>by rw[hop] at e;cases e) (fun x hx=>(Yi hev hb.2 x (by simpa using hx)).symm);rw[he];exact V4 hv w
     ·cases h
   ·cases h
  ·cases h
 ·cases h
end
theorem Gx (l:List UInt8):(⟨l.toArray⟩:ByteArray).size=l.length:=by simp[ByteArray.size]
theorem O9 (l:List UInt8):(⟨l.toArray⟩:ByteArray).toList=l:=by rw[Lib.toList_data]
theorem Fb (b o j:Nat):(⟨b,o,none⟩:Addr).add j=⟨b,o+j,none⟩:=by unfold Addr.add;split<;>simp_all
noncomputable def Ld:AV→Option Nat
 |.int _ (.ofNat n)=>some n
 |_=>none
theorem N7 {φ:Phi} {a:AV} {n:Nat} {v:Value} (h:Ld a=some n) (k:VR φ a v):∃kd,v = .int kd (n:Int):=by
 unfold Ld at h;split at h
 ·cases h;simp only[VR] at k;exact⟨_,k⟩
 ·cases h
section
variable (P : Program)
noncomputable def Je:List UInt8→List UInt8→Bool
 |[],[]=>true
 |a::l,b::m=>Nat.beq a.toNat b.toNat&&Je l m
 |_,_=>false
theorem Zu:∀(l m:List UInt8),Je l m=decide (l=m)
 |[],[]=>rfl
 |[],_::_=>by simp[Je]
 |_::_,[]=>by simp[Je]
 |a::l,b::m=>by
  simp only[Je,Zu l m,List.cons.injEq,Bool.decide_and];congr 1;by_cases h:a=b
  ·subst h;simp
  ·have:a.toNat≠b.toNat:=fun e=>h (UInt8.toNat_inj.1 e);rw[I8 this];simp[h]
noncomputable def binA (op:BinOp) (t:Nat) (a b:AV):Option AV:=match op,a,b with
 |.eql,.str x,.str y=>some (.bool (Je x y))
 |.neq,.str x,.str y=>some (.bool (!Je x y))
 |.lss,.str x,.str y=>some (.bool (Op.bytesLess x y))
 |.gtr,.str x,.str y=>some (.bool (!(Op.bytesLess x y||Je x y)))
 |.leq,.str x,.str y=>some (.bool (Op.bytesLess x y||Je x y))
 |.geq,.str x,.str y=>some (.bool (!Op.bytesLess x y))
 |.add,.str x,.str y=>bif Nat.ble (x.length+y.length) 1000000 then some (.str (x++y)) else none
 |op,a,b=>match op with
  |.eql=>nilEq a b
  |.neq=>match nilEq a b with
   |some (.bool r)=>some (.bool (!r))
   |_=>none
  |_=>none
where nilEq (a b:AV):Option AV:=match P.underlying t,a,b with
 |some (.pointer _),.ptr _ _,.nilp=>some (.bool false)
 |some (.pointer _),.nilp,.ptr _ _=>some (.bool false)
 |some (.pointer _),.nilp,.nilp=>some (.bool true)
 |some (.pointer _),.fp _,.nilp=>some (.bool false)
 |some (.pointer _),.nilp,.fp _=>some (.bool false)
 |some (.slice _),.nils,.sl _ _ _ _ _=>some (.bool false)
 |some (.slice _),.sl _ _ _ _ _,.nils=>some (.bool false)
 |some (.slice _),.nils,.nils=>some (.bool true)
 |some (.slice _),.sle,.nils=>some (.bool false)
 |some (.slice _),.nils,.sle=>some (.bool false)
 |some (.interface _),.ifc _ _,.nili=>some (.bool false)
 |some (.interface _),.nili,.ifc _ _=>some (.bool false)
 |some (.func _ _ _),.fn _ _ _,.nilf=>some (.bool false)
 |some (.func _ _ _),.nilf,.nilf=>some (.bool true)
 |_,_,_=>none
end
section
variable {P : Program} {φ : Phi}
theorem Q2q {t:Nat} {a b r:AV} {x y:Value} (h:binA.nilEq P t a b=some r) (hx:VR φ a x) (hy:VR φ b y):∃q,r = .bool q∧∀w,(Op.equal t x y).run P w = .ok q w:=by
 unfold binA.nilEq at h
 split at h<;>first|cases h|skip
 all_goals
  rename_i hu;refine⟨_,rfl,fun w=>?_⟩;simp only[VR] at hx hy;unfold Op.equal Op.maxDepth Op.equalIn
  first
   |(obtain⟨x1,κ1,e1,rfl⟩:=hx;subst hy;simp[run_underlying hu,go_sem];done)
   |(obtain⟨x1,κ1,e1,rfl⟩:=hy;subst hx;simp[run_underlying hu,go_sem];done)
   |(obtain⟨x1,κ1,e1,⟨_,_,rfl⟩|⟨_,rfl⟩⟩:=hx<;>subst hy<;>simp[run_underlying hu,go_sem];done)
   |(obtain⟨x1,κ1,e1,⟨_,_,rfl⟩|⟨_,rfl⟩⟩:=hy<;>subst hx<;>simp[run_underlying hu,go_sem];done)
   |(obtain⟨x1,e1,rfl⟩:=hx;subst hy;simp[run_underlying hu,go_sem];done)
   |(obtain⟨x1,e1,rfl⟩:=hy;subst hx;simp[run_underlying hu,go_sem];done)
   |(obtain⟨x1,x2,rfl⟩:=hx;subst hy;simp[run_underlying hu,go_sem];done)
   |(obtain⟨x1,x2,rfl⟩:=hy;subst hx;simp[run_underlying hu,go_sem];done)
   |(obtain⟨x1,x2,x3,rfl,e4⟩:=hx;subst hy;simp[run_underlying hu,go_sem];done)
   |(obtain⟨x1,x2,x3,rfl,e4⟩:=hy;subst hx;simp[run_underlying hu,go_sem];done)
   |(obtain⟨x1,x2,e1,e2,rfl⟩:=hx;subst hy;simp[run_underlying hu,go_sem];done)
   |(subst hx;subst hy;simp[run_underlying hu,go_sem];done)
end
section
variable (P : Program)
noncomputable def Ls:Option (Option AV)→Option Nat
 |none=>some 0
 |some (some a)=>Ld a
 |some none=>none
noncomputable def Ik (d:Nat):Option (Option AV)→Option Nat
 |none=>some d
 |some (some a)=>Ld a
 |some none=>none
noncomputable def Z1 (l:List UInt8) (lo hi:Option (Option AV)):Option AV:=match Ls lo,Ik l.length hi with
 |some i,some j=>bif Nat.ble i j&&Nat.ble j l.length then some (.str ((l.take j).drop i)) else none
 |_,_=>none
noncomputable def V9:Option (Option AV)→Option (Option AV)→Bool
 |some _,none=>false
 |_,_=>true
noncomputable def R6 (b off len cap size:Nat) (lo hi mx:Option (Option AV)):Option AV:=match Ls lo,Ik len hi,Ik cap mx with
 |some i,some j,some m=>bif Nat.ble i j&&Nat.ble j m&&Nat.ble m cap&&V9 mx hi then some (.sl b (bif Nat.beq m i then off else off+i*size) (j-i) (m-i) false) else none
 |_,_,_=>none
noncomputable def Z2 (b off len d size:Nat) (lo hi mx:Option (Option AV)):Option AV:=match mx with
 |none=>match Ls lo,Ik len hi with
  |some i,some j=>bif Nat.ble i j&&Nat.ble j len then (bif Nat.beq i 0 then some (.sl b off j d true) else bif Nat.beq i len then some .sle else some (.sl b (off+i*size) (j-i) (d+i) true)) else none
  |_,_=>none
 |some _=>match hi with
  |none=>none
  |some _=>match Ls lo,Ik len hi,Ik len mx with
   |some i,some j,some m=>bif Nat.ble i j&&Nat.ble j m&&Nat.ble m len then some (.sl b (bif Nat.beq m i then off else off+i*size) (j-i) (m-i) false) else none
   |_,_,_=>none
noncomputable def Vj (t:Nat) (a:AV) (lo hi mx:Option (Option AV)):Option AV:=match P.underlying t with
 |some .string=>match a,mx with
  |.str l,none=>Z1 l lo hi
  |_,_=>none
 |some (.slice e)=>match tsz P e with
  |some size=>match a with
   |.sl b off len cap false=>R6 b off len cap size lo hi mx
   |.sl b off len d true=>Z2 b off len d size lo hi mx
   |.nils=>match Ls lo,Ik 0 hi,Ik 0 mx with
    |some 0,some 0,some 0=>match mx,hi with
     |some _,none=>none
     |_,_=>some .nils
    |_,_,_=>none
   |_=>none
  |none=>none
 |some (.array n e)=>match tsz P e with
  |some size=>match a with
   |.ptr b off=>R6 b off n n size lo hi mx
   |_=>none
  |none=>none
 |_=>none
end
section
variable {P : Program} {φ : Phi}
def BR (φ:Phi):Option (Option AV)→Option Value→Prop
 |none,v=>v=none
 |some (some a),v=>∃u,v=some u∧VR φ a u
 |some none,_=>True
theorem Oy {d n cap:Nat} {x:Option (Option AV)} {v:Option Value} (h:Ik d x=some n) (k:BR φ x v):(x=none∧v=none∧n=d)∨(x≠none∧∃kd,v=some (.int kd (n:Int))):=by
 unfold Ik at h;split at h
 ·cases h;simp only[BR] at k;exact .inl ⟨rfl,k,rfl⟩
 ·simp only[BR] at k;obtain⟨u,rfl,hu⟩:=k;obtain⟨kd,rfl⟩:=N7 h hu;exact .inr ⟨by simp,kd,rfl⟩
 ·cases h
theorem Y2z {n:Nat} {x:Option (Option AV)} {v:Option Value} (h:Ls x=some n) (k:BR φ x v):(x=none∧v=none∧n=0)∨(x≠none∧∃kd,v=some (.int kd (n:Int))):=by
 unfold Ls at h;split at h
 ·cases h;simp only[BR] at k;exact .inl ⟨rfl,k,rfl⟩
 ·simp only[BR] at k;obtain⟨u,rfl,hu⟩:=k;obtain⟨kd,rfl⟩:=N7 h hu;exact .inr ⟨by simp,kd,rfl⟩
 ·cases h
theorem H6 {isS:Bool} {len cap i j m:Nat} {lo hi mx:Option Value} (h1:(lo=none∧i=0)∨∃k,lo=some (.int k (i:Int))) (h2:(hi=none∧j=len)∨∃k,hi=some (.int k (j:Int))) (h3:(mx=none∧m=cap)∨((∃k,mx=some (.int k (m:Int)))∧hi≠none))
  (hij:i≤j) (hjm:j≤m) (hm:m≤cap) (w:World):(Instr.sliceBounds isS len cap lo hi mx).run P w = .ok (i,j,m) w:=by
 have e1:(0:Int)≤(i:Int)∧(i:Int)≤(j:Int):=by omega
 have e2:(0:Int)≤(j:Int)∧(j:Int)≤(m:Int):=by omega
 have e3:(0:Int)≤(m:Int)∧(m:Int)≤(cap:Int):=by omega
 rcases h1 with⟨rfl,rfl⟩|⟨k1,rfl⟩<;>rcases h2 with⟨rfl,rfl⟩|⟨k2,rfl⟩<;>rcases h3 with⟨rfl,rfl⟩|⟨⟨k3,rfl⟩,hne⟩ <;>
  first
   |exact absurd rfl hne
   |(simp[Instr.sliceBounds,Instr.sliceBound,asIntOf,e1.2,e2.2,e3.2,go_sem];done)
   |(simp[Instr.sliceBounds,Instr.sliceBound,asIntOf,e1,e2,e3,go_sem];done)
   |(simp[Instr.sliceBounds,Instr.sliceBound,asIntOf,hij,hjm,hm,Nat.not_lt.2 hij,Nat.not_lt.2 hjm,Nat.not_lt.2 hm,go_sem];done)
theorem Dx {a b:Nat} (h:Nat.ble a b=true):a≤b:=Nat.le_of_ble_eq_true h
theorem X07 {t:Nat} {a r:AV} {x:Value} {lo hi mx:Option (Option AV)} {vl vh vm:Option Value} (h:Vj P t a lo hi mx=some r) (hx:VR φ a x) (hl:BR φ lo vl) (hh:BR φ hi vh) (hm:BR φ mx vm) :
  ∃v,(∀w,(Instr.sliceAt t x vl vh vm).run P w = .ok v w)∧VR φ r v:=by
 have lo':∀{n},Ls lo=some n→(vl=none∧n=0)∨∃k,vl=some (.int k (n:Int)):=fun e=>(Y2z e hl).imp (fun q=>q.2) (fun q=>q.2);have hi':∀{d n},Ik d hi=some n→(vh=none∧n=d)∨∃k,vh=some (.int k (n:Int)):=fun e=>(Oy (cap:=0) e hh).imp (fun q=>q.2) (fun q=>q.2)
 have hi'':hi≠none→∀{d n},Ik d hi=some n→vh≠none:=by
  intro hne d n e;rcases Oy (cap:=0) e hh with⟨q,_⟩|⟨_,k,q⟩
  ·exact absurd q hne
  ·rw[q];simp
 unfold Vj at h;split at h
 ·rename_i hu;split at h
  ·rename_i l;simp only[VR] at hx;subst hx
   have hm':vm=none:=by simpa only [BR] using hm
   subst hm';unfold Z1 at h;split at h
   ·rename_i i j hi1 hj1
    cases hc:(Nat.ble i j&&Nat.ble j l.length) with
    |false=>rw[hc] at h;cases h
    |true =>
     rw[hc,cond_true] at h;cases h;simp only[Bool.and_eq_true] at hc;have hb:=fun w=>H6 (P:=P) (isS:=false) (cap:=l.length) (m:=l.length) (mx:=none) (lo' hi1) (hi' hj1) (.inl ⟨rfl,rfl⟩) (Dx hc.1) (Dx hc.2) (Nat.le_refl _) w;refine⟨.string ⟨((l.take j).drop i).toArray⟩,fun w=>?_,by simp[VR]⟩
     have he:(⟨l.toArray⟩:ByteArray).extract i j=⟨((l.take j).drop i).toArray⟩:=by
      apply ByteArray.ext;simp[ByteArray.data_extract,List.drop_take]
     simp only[Instr.sliceAt,Instr.slice,Sem.run_bind,Sem.run_pure,run_underlying hu,Result.andThen_ok,Gx,hb,he,Option.isSome_none,Bool.false_eq_true,if_false]
   ·cases h
  ·cases h
 ·rename_i e hu;split at h
  ·rename_i size hs;split at h
   ·rename_i b off len cap;simp only[VR] at hx;obtain⟨y,κ,hφ,⟨h0,_⟩|⟨_,rfl⟩⟩:=hx
    ·cases h0
    unfold R6 at h;split at h
    ·rename_i i j m hi1 hj1 hm1
     cases hc:(Nat.ble i j&&Nat.ble j m&&Nat.ble m cap&&V9 mx hi) with
     |false=>rw[hc] at h;cases h
     |true =>
      rw[hc,cond_true] at h;cases h;simp only[Bool.and_eq_true] at hc;obtain⟨⟨⟨c1,c2⟩,c3⟩,c4⟩:=hc
      have hmx:(vm=none∧m=cap)∨((∃k,vm=some (.int k (m:Int)))∧vh≠none):=by
       rcases Oy (cap:=0) hm1 hm with⟨q1,q2,q3⟩|⟨q1,q2⟩
       ·exact .inl ⟨q2,q3⟩
       ·refine .inr ⟨q2,?_⟩
        cases mx with
        |none=>exact absurd rfl q1
        |some z=>cases hi with
         |none=>cases c4
         |some u=>exact hi'' (by simp) hj1
      have hb:=fun w=>H6 (P:=P) (isS:=true) (lo' hi1) (hi' hj1) hmx (Dx c1) (Dx c2) (Dx c3) w;refine⟨.slice (some (if m=i then ⟨y,off,none⟩ else (⟨y,off,none⟩:Addr).add (i*size))) (j-i) (m-i),fun w=>?_,?_⟩
      ·simp only[Instr.sliceAt,Instr.slice,Sem.run_bind,Sem.run_pure,run_underlying hu,Result.andThen_ok,hb,C4 hs]<;>(try split)<;>rfl
      ·simp only[VR];refine⟨y,κ,hφ,.inr ⟨by trivial,?_⟩⟩;rcases D2 m i with⟨q,q'⟩|⟨q,q'⟩
       ·simp[q,q']
       ·simp[q,q',Fb]
    ·cases h
   ·rename_i b off len d;simp only[VR] at hx;obtain⟨y,κ,hφ,⟨_,hκ,rfl⟩|⟨h0,_⟩⟩:=hx
    case inr=>cases h0
    unfold Z2 at h;split at h
    ·have hm':vm=none:=by simpa only [BR] using hm
     subst hm';split at h
     ·rename_i i j hi1 hj1
      cases hc:(Nat.ble i j&&Nat.ble j len) with
      |false=>rw[hc] at h;cases h
      |true =>
       rw[hc,cond_true] at h;simp only[Bool.and_eq_true] at hc;have c1:=Dx hc.1;have c2:=Dx hc.2;have hb:=fun w=>H6 (P:=P) (isS:=true) (cap:=κ-d) (m:=κ-d) (mx:=none) (lo' hi1) (hi' hj1) (.inl ⟨rfl,rfl⟩) c1 (by omega) (Nat.le_refl _) w;refine⟨.slice (some (if κ-d=i then ⟨y,off,none⟩ else (⟨y,off,none⟩:Addr).add (i*size))) (j-i) (κ-d-i),fun w=>?_,?_⟩
       ·simp only[Instr.sliceAt,Instr.slice,Sem.run_bind,Sem.run_pure,run_underlying hu,Result.andThen_ok,hb,C4 hs]<;>(try split)<;>rfl
       ·rcases D2 i 0 with⟨q,rfl⟩|⟨q,q'⟩
        ·rw[q,cond_true] at h;cases h;simp only[VR];refine⟨y,κ,hφ,.inl ⟨by trivial,by omega,?_⟩⟩;by_cases h0:κ-d=0
         ·simp[h0]
         ·simp[h0,Addr.add]
        ·rw[q,cond_false] at h;rcases D2 i len with⟨p,rfl⟩|⟨p,p'⟩
         ·rw[p,cond_true] at h;cases h;simp only[VR];exact⟨_,_,by rw[show j-i=0 by omega]⟩
         ·rw[p,cond_false] at h;cases h;simp only[VR];refine⟨y,κ,hφ,.inl ⟨by trivial,by omega,?_⟩⟩;rw[if_neg (by omega),Fb,show κ-d-i=κ-(d+i) by omega]
     ·cases h
    ·split at h
     ·cases h
     ·split at h
      ·rename_i i j m hi1 hj1 hm1
       cases hc:(Nat.ble i j&&Nat.ble j m&&Nat.ble m len) with
       |false=>rw[hc] at h;cases h
       |true =>
        rw[hc,cond_true] at h;cases h;simp only[Bool.and_eq_true] at hc;obtain⟨⟨c1,c2⟩,c3⟩:=hc
        have hmx:(vm=none∧m=κ-d)∨((∃k,vm=some (.int k (m:Int)))∧vh≠none):=by
         rcases Oy (cap:=0) hm1 hm with⟨q1,q2,q3⟩|⟨q1,q2⟩
         ·cases q1
         ·exact .inr ⟨q2,hi'' (by simp) hj1⟩
        have hb:=fun w=>H6 (P:=P) (isS:=true) (lo' hi1) (hi' hj1) hmx (Dx c1) (Dx c2) (by have:=Dx c3;omega) w;refine⟨.slice (some (if m=i then ⟨y,off,none⟩ else (⟨y,off,none⟩:Addr).add (i*size))) (j-i) (m-i),fun w=>?_,?_⟩
        ·simp only[Instr.sliceAt,Instr.slice,Sem.run_bind,Sem.run_pure,run_underlying hu,Result.andThen_ok,hb,C4 hs]<;>(try split)<;>rfl
        ·simp only[VR];refine⟨y,κ,hφ,.inr ⟨by trivial,?_⟩⟩;rcases D2 m i with⟨q,q'⟩|⟨q,q'⟩
         ·simp[q,q']
         ·simp[q,q',Fb]
      ·cases h
   ·simp only[VR] at hx;subst hx;split at h
    ·rename_i hi1 hj1 hm1
     have key:r = .nils∧((vm=none∧(0:Nat)=0)∨((∃k,vm=some (.int k ((0:Nat):Int)))∧vh≠none)):=by
      rcases Oy (cap:=0) hm1 hm with⟨q1,q2,q3⟩|⟨q1,q2⟩
      ·subst q1;simp only[Option.some.injEq] at h;exact⟨h.symm,.inl ⟨q2,rfl⟩⟩
      ·cases mx with
       |none=>exact absurd rfl q1
       |some z=>cases hi with
        |none=>simp at h
        |some u=>simp only[Option.some.injEq] at h;exact⟨h.symm,.inr ⟨q2,hi'' (by simp) hj1⟩⟩
     obtain⟨rfl,hmx⟩:=key;have hb:=fun w=>H6 (P:=P) (isS:=true) (lo' hi1) (hi' hj1) hmx (Nat.le_refl _) (Nat.le_refl _) (Nat.le_refl _) w;refine⟨.slice none 0 0,fun w=>?_,by simp[VR]⟩;simp only[Instr.sliceAt,Instr.slice,Sem.run_bind,Sem.run_pure,run_underlying hu,Result.andThen_ok,hb,C4 hs]<;>(try split)<;>rfl
    ·cases h
   ·cases h
  ·cases h
 ·rename_i n e hu;split at h
  ·rename_i size hs;split at h
   ·rename_i b off;simp only[VR] at hx;obtain⟨y,κ,hφ,rfl⟩:=hx;unfold R6 at h;split at h
    ·rename_i i j m hi1 hj1 hm1
     cases hc:(Nat.ble i j&&Nat.ble j m&&Nat.ble m n&&V9 mx hi) with
     |false=>rw[hc] at h;cases h
     |true =>
      rw[hc,cond_true] at h;cases h;simp only[Bool.and_eq_true] at hc;obtain⟨⟨⟨c1,c2⟩,c3⟩,c4⟩:=hc
      have hmx:(vm=none∧m=n)∨((∃k,vm=some (.int k (m:Int)))∧vh≠none):=by
       rcases Oy (cap:=0) hm1 hm with⟨q1,q2,q3⟩|⟨q1,q2⟩
       ·exact .inl ⟨q2,q3⟩
       ·refine .inr ⟨q2,?_⟩
        cases mx with
        |none=>exact absurd rfl q1
        |some z=>cases hi with
         |none=>cases c4
         |some u=>exact hi'' (by simp) hj1
      have hb:=fun w=>H6 (P:=P) (isS:=false) (lo' hi1) (hi' hj1) hmx (Dx c1) (Dx c2) (Dx c3) w;refine⟨.slice (some (if m=i then ⟨y,off,none⟩ else (⟨y,off,none⟩:Addr).add (i*size))) (j-i) (m-i),fun w=>?_,?_⟩
      ·simp only[Instr.sliceAt,Instr.sureAddr,Sem.run_bind,Sem.run_pure,run_underlying hu,Result.andThen_ok,hb,C4 hs]
      ·simp only[VR];refine⟨y,κ,hφ,.inr ⟨by trivial,?_⟩⟩;rcases D2 m i with⟨q,q'⟩|⟨q,q'⟩
       ·simp[q,q']
       ·simp[q,q',Fb]
    ·cases h
   ·cases h
  ·cases h
 ·cases h
end
end Sv
end Go.Proofs.YtglcebdfdehidaaGreatDoor
