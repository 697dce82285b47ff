/- The texts Base, Heap, Map, Float, Slices, Shelf, Util, Dep1, Dep2, Dep3, Dep4, Dep5, DepT, Dep6, Ord, Dep7, Dep8, Dep9, Dep10, Dep11, Dep12, Dep13, Dep14, Read, DepX, Dep15, Dep16, Pan, Dep17, Defer, Dep18, Dep19, S1, S2, S3, S4, S5, S6, S7, S8, S9, S10, S11 of the proof, joined. Each says at its theorems what it proves. -/
import Derived.Test.YtlmloohlmlahfaaGreatDoorProg
import Derived.WalkKit
import Derived.WalkSpells
import Derived.WalkLawsBesides
import Derived.Deep.LoopGhost
import Derived.Deep.Quiet
import Derived.ScopeJumps
import Derived.Lib.Strings
import Derived.Lib.OthersKept
import Derived.Maps.AppendAt
import Derived.Shelf.Strings.Trim
import Derived.Shelf.Small.Utf8
import Derived.Shelf.Small.Bits
import Derived.Shelf.Small.Strs
import Derived.Shelf.Strconv.Itoa0
import Derived.Shelf.Strings.Search1
import Derived.Shelf.Strings.Search2
import Derived.Shelf.Strings.Search3
import Derived.Shelf.Strings.Cut
import Derived.Shelf.LaysM
import Derived.Shelf.Strings.Shaped
import Derived.Shelf.Sort.Plain
import Derived.Shelf.GgClosure.StringsIndexFunc
import Derived.Ground.GgwProg
import Derived.Shelf.GgClosure.StringsIndexFuncTop
import Derived.Shelf.GgClosure.StringsRunes
import Derived.Shelf.Strings.Prefix
import Derived.Shelf.Strings.Runes
import Derived.Shelf.Strings.AsciiSet
import Derived.Shelf.Unicode.DecodeSlow
import Derived.Shelf.Unicode.DecodeAny
import Derived.Shelf.Strings.FuncGrows
import Derived.Shelf.Slices.Turned
import Derived.Ground.Names2Prog
import Derived.Shelf.Slices.CompactI
import Derived.Shelf.Slices.Cells
import Derived.Shelf.Slices.In.SortNone
import Derived.Laws.ResultCell
import Derived.Lib.IndexLaws
import Derived.OrdersHeld
import Derived.Defers
import Derived.Recover
import Derived.Orders
import Derived.Laws.CopyRow
import Derived.Below
import Derived.Laws.AppendOwn
import Derived.Laws.Entries
import Derived.Laws.Tables
import Derived.Deep.AppendSrc
set_option linter.unusedSimpArgs false
set_option linter.unusedVariables false
namespace Go.Proofs.YtlmloohlmlahfaaGreatDoor
section
open Go Go.RowKit
def upd (σ:Nat→Value) (d:Nat) (v:Value):Nat→Value:=fun i=>bif Nat.beq i d then v else σ i
def Ci (σ:Nat→Value) (d:Option Nat) (v:Value):Nat→Value:=match d with|some d=>upd σ d v|none=>σ
def mk (n:Nat) (σ:Nat→Value):Act:={ tmps:=Array.ofFn (n:=n) (fun i=>σ i.1),defers:=[] }
def sl (n:Nat) (σ:Nat→Value) (t:Nat):Value:=bif Nat.blt t n then σ t else undef
def ev (n:Nat) (σ:Nat→Value):Operand→Value
  |.tmp t=>sl n σ t
  |.const v=>v
  |.global g => .pointer (some ⟨g,0,none⟩)
  |.func f => .func (.func f) #[] #[]
def I7 (l:List Value):Nat→Value:=fun i=>l.getD i undef
theorem H3 (n:Nat) (σ:Nat→Value) (t:Nat):(mk n σ).tmps.getD t undef=sl n σ t:=by
  simp only[mk,sl,Array.getD_eq_getD_getElem?,Array.getElem?_ofFn]
  by_cases h:t < n
  · have:Nat.blt t n=true:=by simpa [Nat.blt_eq] using h
    simp[h,this]
  · have:Nat.blt t n=false:=by rw[Bool.eq_false_iff];intro h';exact h (by simpa [Nat.blt_eq] using h')
    simp[h,this]
theorem Gm (n:Nat) (σ:Nat→Value):(mk n σ).eval=ev n σ:=by
  funext x
  cases x with
  |tmp t=>exact H3 n σ t
  |const v=>rfl
  |global g=>rfl
  |func f=>rfl
theorem G3 (n:Nat) (σ:Nat→Value) (d:Option Nat) (v:Value):(mk n σ).put d v=mk n (Ci σ d v):=by
  cases d with
  |none=>rfl
  |some d =>
    simp only[mk,Act.put,Ci]
    congr 1
    apply Array.ext
    · simp
    · intro i h1 h2
      simp only[Array.getElem_ofFn,upd]
      rw[Array.getElem_setIfInBounds (by simpa using h1)]
      by_cases h:d=i
      · subst h;simp
      · have:Nat.beq i d=false:=by rw[Bool.eq_false_iff];intro h';exact h (Nat.eq_of_beq_eq_true h').symm
        simp[h,this]
theorem Q5t (σ:Nat→Value) (d:Nat) (v:Value):upd σ d v d=v:=by simp[upd]
theorem Q5u (σ:Nat→Value) (d i:Nat) (v:Value) (h:i≠d):upd σ d v i=σ i:=by
  have:Nat.beq i d=false:=by rw[Bool.eq_false_iff];intro h';exact h (Nat.eq_of_beq_eq_true h')
  simp[upd,this]
theorem M1 {σ:Nat→Value} {d:Nat} {v:Value} (h:σ d=v):σ=upd σ d v:=by
  funext i
  by_cases hi:i=d
  · rw[hi,Q5t,h]
  · rw[Q5u _ _ _ _ hi]
def H8:List Oper→Nat→Option Nat
  |[],_=>none
  |o::_,0=>o.dst
  |_::r,j+1=>H8 r j
theorem X12 (l:List Oper) (j:Nat):H8 l j=(l[j]?).bind (·.dst):=by
  induction l generalizing j with
  |nil=>simp[H8]
  |cons o r ih=>cases j with
    |zero=>simp[H8]
    |succ j=>simp[H8,ih]
def isB (want:Bool):Value→Bool
  |.bool b=>bif want then b else !b
  |_=>false
def gOk (ops:Array Oper) (n:Nat) (σ:Nat→Value) (g:Option (Nat × Bool)):Bool :=
  match g with
  |none=>true
  |some (j,want)=>match H8 ops.toList j with
    |some t=>isB want (sl n σ t)
    |none=>false
theorem wanted_mk (ops:Array Oper) (n:Nat) (σ:Nat→Value) (o:Oper):Region.wanted o (yielded ops (mk n σ).tmps)=gOk ops n σ o.guard:=by
  unfold Region.wanted gOk
  cases o.guard with
  |none=>rfl
  |some g =>
    obtain⟨j,want⟩:=g
    simp only[yielded,X12,Array.getElem?_toList]
    cases (ops[j]?).bind (·.dst) with
    |none=>simp
    |some t =>
      have h:=H3 n σ t
      simp only[Option.bind_some]
      rw[Array.getD_eq_getD_getElem?] at h
      cases hx:(mk n σ).tmps[t]? with
      |none=>rw[hx] at h;simp only[Option.getD_none] at h;rw[←h];simp[isB,undef]
      |some v=>rw[hx] at h;simp only[Option.getD_some] at h;rw[←h];cases v<;>simp[isB]<;>cases want<;>simp
def F8 (n:Nat) (Q:Exit→(Nat→Value)→World→Prop):Exit→Act→World→Prop:=fun e a w=>∃σ,a=mk n σ∧Q e σ w
def W (P:Program) (n:Nat) (c:Code) (Q:Exit→(Nat→Value)→World→Prop) (σ:Nat→Value) (w:World):Prop:=c.wp P (F8 n Q) (mk n σ) w
def Pa (K:(Nat→Value)→World→Prop) (Q:Exit→(Nat→Value)→World→Prop):Exit→(Nat→Value)→World→Prop
  |.normal,σ,w=>K σ w
  |e,σ,w=>Q e σ w
def Vf (id:Nat) (Q:Exit→(Nat→Value)→World→Prop):Exit→(Nat→Value)→World→Prop
  |.exit i,σ,w=>bif Nat.beq i id then Q .normal σ w else Q (.exit i) σ w
  |e,σ,w=>Q e σ w
def WO (P:Program) (n:Nat) (ops:Array Oper) (l:List Oper) (Q:Exit→(Nat→Value)→World→Prop) (σ:Nat→Value) (w:World):Prop :=
  wpList P ops (F8 n Q) l (mk n σ) w
section
variable {P : Program} {n : Nat} {Q : Exit → (Nat → Value) → World → Prop} {σ : Nat → Value} {w : World}
theorem Hr {c:Code} {Q':Exit→(Nat→Value)→World→Prop} (h:W P n c Q σ w) (hq:∀e σ w,Q e σ w→Q' e σ w):W P n c Q' σ w :=
  wp_mono h fun _ _ _ ⟨σ',ha,q⟩=>⟨σ',ha,hq _ _ _ q⟩
theorem Ds {x y:Code} (h:W P n x (Pa (W P n y Q) Q) σ w):W P n (.seq x y) Q σ w:=by
  refine wp_seq (wp_mono h ?_)
  rintro e a w ⟨σ',rfl,q⟩
  cases e<;>first|exact q|exact⟨σ',rfl,q⟩
theorem X60 {x y:Code} (J:(Nat→Value)→World→Prop) (h:W P n x (Pa J Q) σ w) (r:∀σ w,J σ w→W P n y Q σ w):W P n (.seq x y) Q σ w:=by
  refine Ds (Hr h ?_)
  intro e σ w q
  cases e<;>first|exact q|exact r _ _ q
theorem Ok (h:Q .normal σ w):W P n .skip Q σ w:=wp_skip ⟨σ,rfl,h⟩
theorem Hq (h:Q .ret σ w):W P n .ret Q σ w:=wp_ret ⟨σ,rfl,h⟩
theorem Q4r {id:Nat} (h:Q (.exit id) σ w):W P n (.exit id) Q σ w:=wp_exit ⟨σ,rfl,h⟩
theorem X6w {l:Nat} (h:Q .normal σ w):W P n (.label l) Q σ w:=wp_label ⟨σ,rfl,h⟩
theorem X6x {l:Nat} (h:Q (.goto l) σ w):W P n (.goto l) Q σ w:=wp_goto ⟨σ,rfl,h⟩
theorem Vo {id:Nat} {c:Code} (h:W P n c (Vf id Q) σ w):W P n (.block id c) Q σ w:=by
  refine wp_block (wp_mono h ?_)
  rintro e a w ⟨σ',rfl,q⟩
  cases e with
  |exit i =>
    simp only[Exit.inBlock]
    simp only[Vf] at q
    by_cases hi:i=id
    · subst hi
      have:Nat.beq i i=true:=Nat.beq_refl i
      rw[this] at q
      rw[if_pos rfl];exact⟨σ',rfl,q⟩
    · have:Nat.beq i id=false:=by rw[Bool.eq_false_iff];intro h';exact hi (Nat.eq_of_beq_eq_true h')
      rw[this] at q
      rw[if_neg hi];exact⟨σ',rfl,q⟩
  |_=>exact⟨σ',rfl,q⟩
theorem Q4q {c:Operand} {x y:Code} (hc:ev n σ c = .bool false) (h:W P n y Q σ w):W P n (.cond c x y) Q σ w :=
  wp_cond_false (by rw[Gm];exact hc) h
theorem Ra {c : Operand} {x y : Code} {t : Bool} (hc : ev n σ c = .bool t) (ht : t = true → W P n x Q σ w) (hf : t = false → W P n y Q σ w) :
    W P n (.cond c x y) Q σ w :=
  wp_cond_split (by rw[Gm];exact hc) ht hf
theorem Q9 {c : Operand} {x y : Code} {p : Prop} [Decidable p] (hc : ev n σ c = .bool (decide p)) (ht : p → W P n x Q σ w) (hf : ¬ p → W P n y Q σ w) :
    W P n (.cond c x y) Q σ w :=
  Ra hc (fun h=>ht (of_decide_eq_true h)) (fun h=>hf (of_decide_eq_false h))
theorem Q4p {c : Code} (I : Nat → (Nat → Value) → World → Prop) (h0 : ∃ g, I g σ w)
    (round:∀g σ w,I g σ w→W P n c (Pa (fun σ w=>∃g',g' < g∧I g' σ w) Q) σ w):W P n (.loop c) Q σ w:=by
  obtain⟨g,h0⟩:=h0
  refine wp_loop_ghost (fun g a w=>∃σ,a=mk n σ∧I g σ w) g ⟨σ,rfl,h0⟩ ?_
  rintro g a w ⟨σ,rfl,hI⟩
  refine wp_mono (round g σ w hI) ?_
  rintro e a w ⟨σ',rfl,q⟩
  cases e with
  |normal=>obtain⟨g',hg,hI⟩:=q;exact⟨g',hg,σ',rfl,hI⟩
  |_=>exact⟨σ',rfl,q⟩
theorem D3 {id:Nat} {l:List Oper} (h:WO P n l.toArray l Q σ w):W P n (.region id l.toArray false) Q σ w:=wp_region_lit h
theorem C9 {ops:Array Oper} (h:Q .normal σ w):WO P n ops [] Q σ w:=⟨σ,rfl,h⟩
theorem Db {ops : Array Oper} {o : Oper} {rest : List Oper} {v : Value} {w' : World} (hg : gOk ops n σ o.guard = true)
    (h:(execOp (ev n σ) o).run P w = .ok (.value v) w') (next:WO P n ops rest Q (Ci σ o.dst v) w'):WO P n ops (o::rest) Q σ w:=by
  unfold WO wpList
  rw[wanted_mk,hg,if_pos rfl]
  left
  unfold Oper.wp
  rw[Gm,h,Oper.upon_value,G3]
  exact next
theorem Lb {ops : Array Oper} {o : Oper} {rest : List Oper} {w' : World} (hg : gOk ops n σ o.guard = true)
    (h:(execOp (ev n σ) o).run P w = .ok .skip w') (next:WO P n ops rest Q (Ci σ o.dst undef) w'):WO P n ops (o::rest) Q σ w:=by
  unfold WO wpList
  rw[wanted_mk,hg,if_pos rfl]
  left
  unfold Oper.wp
  rw[Gm,h,Oper.upon_skip,G3]
  exact next
theorem Fd {ops : Array Oper} {o : Oper} {rest : List Oper} (hg : gOk ops n σ o.guard = false)
    (next:WO P n ops rest Q (Ci σ o.dst undef) w):WO P n ops (o::rest) Q σ w:=by
  unfold WO wpList
  rw[wanted_mk,hg,if_neg (by simp)]
  rw[G3]
  exact next
theorem Rc {ops : Array Oper} {o : Oper} {rest : List Oper} {f : FuncId} {args : Array Value} {w' : World} {R : Ending → World → Prop} (hg : gOk ops n σ o.guard = true)
    (h:(execOp (ev n σ) o).run P w = .ok (.enter f args) w') (hc:Calls P f args w' R)
    (next:∀v w'',R (.returned v) w''→WO P n ops rest Q (Ci σ o.dst v) w'')
    (nop:∀ch w'',R (.panicked ch) w''→Q (.panic ch) σ w'')
    (noo:∀w'',¬R .outgrown w''):WO P n ops (o::rest) Q σ w:=by
  unfold WO wpList
  rw[wanted_mk,hg,if_pos rfl]
  left
  unfold Oper.wp
  rw[Gm,h,Oper.upon_enter]
  refine hc.mono ?_
  intro e w'' hR
  cases e with
  |returned v=>show wpList _ _ _ _ _ _;rw[G3];exact next v w'' hR
  |panicked ch=>exact⟨σ,rfl,nop ch w'' hR⟩
  |outgrown=>exact(noo w'' hR).elim
theorem X64 {ops : Array Oper} {l : List Oper} (t : Nat) {b : Bool} (h : σ t = .bool b) (ht : b = true → WO P n ops l Q (upd σ t (.bool true)) w)
    (hf:b=false→WO P n ops l Q (upd σ t (.bool false)) w):WO P n ops l Q σ w:=by
  rw[M1 h]
  cases b
  · exact hf rfl
  · exact ht rfl
theorem X63 {ops : Array Oper} {l : List Oper} (t : Nat) {p : Prop} [Decidable p] (h : σ t = .bool (decide p)) (ht : p → WO P n ops l Q (upd σ t (.bool true)) w)
    (hf:¬p→WO P n ops l Q (upd σ t (.bool false)) w):WO P n ops l Q σ w :=
  X64 t h (fun h=>ht (of_decide_eq_true h)) (fun h=>hf (of_decide_eq_false h))
theorem On {ops:Array Oper} {l:List Oper} (t:Nat) {v v':Value} (h:σ t=v) (e:v=v') (k:WO P n ops l Q (upd σ t v') w):WO P n ops l Q σ w:=by
  rw[M1 (h.trans e)];exact k
end
abbrev S (l:List UInt8):Value:=.string ⟨l.toArray⟩
def Ls (op:BinOp) (x y:Value):Option Value :=
  match x,y with
  | .int k a, .int k' b => if k = k' then (match op with
      |.eql=>some (.bool (decide (a=b)))
      |.neq=>some (.bool (!decide (a=b)))
      |.lss=>some (.bool (decide (a < b)))
      |.leq=>some (.bool (decide (a≤b)))
      |.gtr=>some (.bool (decide (b < a)))
      |.geq=>some (.bool (decide (b≤a)))
      |.add=>some (.int k (k.wrap (a+b)))
      |.sub=>some (.int k (k.wrap (a-b)))
      |.mul=>some (.int k (k.wrap (a*b)))
      |_=>none) else none
  |_,_=>none
def H1 (n:Nat) (σ:Nat→Value):Op→Option Value
  |.move x=>some (ev n σ x)
  |.assign x=>some (ev n σ x)
  |.pick c a b=>match ev n σ c with
    |.bool t=>some (bif t then ev n σ a else ev n σ b)
    |_=>none
  |.binOp op _ x y _=>Ls op (ev n σ x) (ev n σ y)
  |.unOp .not _ x=>match ev n σ x with
    |.bool b=>some (.bool (!b))
    |_=>none
  |.unOp .neg _ x=>match ev n σ x with
    |.int k a=>some (.int k (k.wrap (0-a)))
    |_=>none
  |.extract x i=>match ev n σ x with
    |.tuple vs=>vs[i]?
    |_=>none
  |.nilCheck x=>match ev n σ x with
    |.pointer (some a)=>some (.pointer (some a))
    |_=>none
  |_=>none
theorem Jm {P:Program} {n:Nat} {σ:Nat→Value} {w:World} {o:Oper} {v:Value} (h:H1 n σ o.op=some v):(execOp (ev n σ) o).run P w = .ok (.value v) w:=by
  obtain⟨dst,op,type,pos,after,guard⟩:=o
  cases op<;>simp only[H1,reduceCtorEq] at h
  case move x=>simp only[Option.some.injEq] at h;subst h;rfl
  case assign x=>simp only[Option.some.injEq] at h;subst h;rfl
  case pick c a b =>
    cases hc:ev n σ c<;>rw[hc] at h<;>simp only[reduceCtorEq,Option.some.injEq] at h
    rename_i t
    subst h
    cases t<;>simp[execOp,hc,go_sem]
  case binOp op xt x y yt =>
    cases hx:ev n σ x<;>cases hy:ev n σ y<;>rw[hx,hy] at h<;>simp only[Ls,reduceCtorEq] at h
    rename_i k a k' b
    split at h
    · rename_i hk;subst hk
      cases op<;>simp only[reduceCtorEq,Option.some.injEq] at h<;>subst h<;>simp[execOp,hx,hy,eqGuard,binOp,go_sem]<;>first|rfl|(rw[Bool.eq_iff_iff];simp)
    · simp at h
  case unOp op xt x =>
    cases op<;>cases hx:ev n σ x<;>simp only[hx,reduceCtorEq,Option.some.injEq] at h<;>subst h<;>simp[execOp,hx,go_sem]
  case extract x i =>
    cases hx:ev n σ x<;>simp only[hx,reduceCtorEq] at h
    simp[execOp,hx,Instr.extract,h,go_sem]
  case nilCheck x =>
    cases hx:ev n σ x<;>simp only[hx,reduceCtorEq] at h
    rename_i a
    cases a<;>simp only[reduceCtorEq,Option.some.injEq] at h
    subst h
    simp[execOp,hx,go_sem]
section
variable {P : Program} {n : Nat} {Q : Exit → (Nat → Value) → World → Prop} {σ : Nat → Value} {w : World}
theorem Bv {ops : Array Oper} {o : Oper} {rest : List Oper} {v : Value} (hg : gOk ops n σ o.guard = true) (h : H1 n σ o.op = some v)
    (next:WO P n ops rest Q (Ci σ o.dst v) w):WO P n ops (o::rest) Q σ w:=Db hg (Jm h) next
end
section
variable {P : Program} {n : Nat} {Q : Exit → (Nat → Value) → World → Prop} {σ : Nat → Value} {w : World}
theorem Ol {c:Code} {d:Nat} {v:Value} (h:σ d=v) (k:W P n c Q (upd σ d v) w):W P n c Q σ w:=by
  rw[M1 h];exact k
def Ret (T:Value→World→Prop) (e:Ending) (w:World):Prop:=∃v,e = .returned v∧T v w
theorem Ret.intro {T:Value→World→Prop} {v:Value} {w:World} (h:T v w):Ret T (.returned v) w:=⟨v,rfl,h⟩
theorem Ret.mono {T T':Value→World→Prop} {e:Ending} {w:World} (h:Ret T e w) (f:∀v w,T v w→T' v w):Ret T' e w:=by
  obtain⟨v,he,hv⟩:=h;exact⟨v,he,f _ _ hv⟩
def K5 (P:Program) (n:Nat) (fn:Func) (R:Ending→World→Prop):Exit→(Nat→Value)→World→Prop
  |.normal,σ,w | .ret,σ,w=>∃v,(results fn (mk n σ).tmps).run P w = .ok v w∧R (.returned v) w
  |.panic ch,_,w=>R (.panicked ch) w
  |.outgrown,_,w=>R .outgrown w
  |_,_,_=>False
theorem Ig {f : FuncId} {fn : Func} {c : Code} {args : List Value} {R : Ending → World → Prop} (hf : P.funcs[f]? = some fn) (hb : fn.body = some c) (hn : fn.ntmps = n)
    (h:W P n c (K5 P n fn R) (I7 args) w) (hl:Nat.ble args.length n=true:=by rfl):Calls P f args.toArray w R:=by
  have ha:args.length≤n:=Nat.le_of_ble_eq_true hl
  refine calls_of_wp hf hb ?_
  have e:({ tmps:=args.toArray++Array.replicate (fn.ntmps-args.toArray.size) undef,defers:=[] }:Act)=mk n (I7 args):=by
    unfold mk
    congr 1
    apply Array.ext
    · simp;omega
    · intro i h1 h2
      simp only[Array.getElem_ofFn,I7]
      rw[Array.getElem_append]
      by_cases hi:i < args.length
      · simp[hi,List.getD_eq_getElem?_getD]
      · simp[hi,List.getD_eq_getElem?_getD]
  rw[e]
  refine wp_mono h ?_
  rintro e a w ⟨σ',rfl,q⟩
  cases e with
  |normal=>exact⟨rfl,q⟩
  |ret=>exact⟨rfl,q⟩
  |panic ch=>exact⟨rfl,q⟩
  |outgrown=>exact q
  |exit id=>exact q.elim
  |goto l=>exact q.elim
theorem Oe {fn : Func} {T : Value → World → Prop} {t : Nat} {v0 : Value} (hr : fn.results = #[.tmp t]) (h0 : sl n σ t = v0) (h : T v0 w) :
    K5 P n fn (Ret T) .ret σ w:=by
  refine⟨v0,?_,⟨v0,rfl,h⟩⟩
  rw[results_tmp hr,H3,h0]
theorem Q5 {fn : Func} {T : Value → World → Prop} {t u s : Nat} {v0 v1 v2 : Value} (hr : fn.results = #[.tmp t, .tmp u, .tmp s]) (h0 : sl n σ t = v0) (h1 : sl n σ u = v1) (h2 : sl n σ s = v2)
    (h:T (.tuple #[v0,v1,v2]) w):K5 P n fn (Ret T) .ret σ w:=by
  refine⟨_,?_,⟨_,rfl,h⟩⟩
  have e0:=H3 n σ t;have e1:=H3 n σ u;have e2:=H3 n σ s
  rw[Array.getD_eq_getD_getElem?] at e0 e1 e2
  simp only[results,hr]
  simp[e0,e1,e2,h0,h1,h2]
theorem X5y {fn:Func} {T:Value→World→Prop} {e:Exit} (he:e = .normal∨e = .ret) (hr:fn.results = #[]) (h:T (.tuple #[]) w):K5 P n fn (Ret T) e σ w:=by
  rcases he with rfl|rfl<;>exact⟨_,results_none hr _ _ _,⟨_,rfl,h⟩⟩
def Au (P:Program) (f:FuncId):Prop:=∀args w,(callFunc f args).run P w = .ok (.enter f args) w
theorem Ay {P : Program} {f : FuncId} {fn : Func} {c : Code} (hf : P.funcs[f]? = some fn) (hname : (fn.name == "runtime.NumGoroutine") = false) (hb : fn.body = some c) : Au P f := by
  intro args w
  have h1 : fn.name ≠ "runtime.NumGoroutine" := by simpa using hname
  simp[callFunc,hf,h1,hb,mark,go_sem]
theorem Sh {P:Program} {f:FuncId} {args:Array Value} {w:World} {v:Value} (h:Calls P f args w fun e w'=>e = .returned v∧w'=w):Calls P f args w (Ret fun v' w'=>v'=v∧w=w') :=
  h.mono fun _ _ ⟨he,hw⟩=>⟨v,he,rfl,hw.symm⟩
theorem Gc {ops : Array Oper} {rest : List Oper} {f : FuncId} {ar : Array Operand} {ts : Array TypeId} {ty : TypeId} {ps : String} {dst : Option Tmp} {af : Array Edge} {g : Option (Nat × Bool)} {T : Value → World → Prop}
    (hg:gOk ops n σ g=true) (he:Au P f) (hc:Calls P f (ar.toList.map (ev n σ)).toArray w (Ret T))
    (next:∀v w',T v w'→WO P n ops rest Q (Ci σ dst v) w') :
    WO P n ops (⟨dst,.call { callee:=.value (.func f),args:=ar,argTypes:=ts },ty,ps,af,g⟩::rest) Q σ w:=by
  refine Rc (R:=Ret T) (w':=w) (f:=f) (args:=(ar.toList.map (ev n σ)).toArray) hg ?_ hc ?_ ?_ ?_
  · have : ar.map (ev n σ) = (ar.toList.map (ev n σ)).toArray := by
      apply Array.ext';simp
    simp only[execOp,resolve,ev,this]
    have:=he (List.map (ev n σ) ar.toList).toArray w
    simp[Deferred.ofValue,invoke,go_sem,this]
  · rintro v w'' ⟨v',hv,hT⟩;cases hv;exact next v w'' hT
  · rintro ch w'' ⟨v',hv,hT⟩;cases hv
  · rintro w'' ⟨v',hv,hT⟩;cases hv
theorem Oo {ops : Array Oper} {rest : List Oper} {x : Operand} {f : FuncId} {cap : Array Value} {ar : Array Operand} {ts : Array TypeId} {ty : TypeId} {ps : String} {dst : Option Tmp} {af : Array Edge} {g : Option (Nat × Bool)} {T : Value → World → Prop}
    (hg:gOk ops n σ g=true) (hx:ev n σ x = .func (.func f) #[] cap) (he:Au P f) (hc:Calls P f (ar.toList.map (ev n σ)++cap.toList).toArray w (Ret T))
    (next:∀v w',T v w'→WO P n ops rest Q (Ci σ dst v) w') :
    WO P n ops (⟨dst,.call { callee:=.value x,args:=ar,argTypes:=ts },ty,ps,af,g⟩::rest) Q σ w:=by
  refine Rc (R:=Ret T) (w':=w) (f:=f) (args:=(ar.toList.map (ev n σ)++cap.toList).toArray) hg ?_ hc ?_ ?_ ?_
  · have h1 : ar.map (ev n σ) = (ar.toList.map (ev n σ)).toArray := by
      apply Array.ext';simp
    have h2:(ar.toList.map (ev n σ)++cap.toList).toArray=(ar.toList.map (ev n σ)).toArray++cap:=by
      apply Array.ext';simp
    have:=he ((List.map (ev n σ) ar.toList).toArray++cap) w
    simp only[execOp,resolve,hx,h1,h2]
    simp[Deferred.ofValue,invoke,go_sem,this]
  · rintro v w'' ⟨v',hv,hT⟩;cases hv;exact next v w'' hT
  · rintro ch w'' ⟨v',hv,hT⟩;cases hv
  · rintro w'' ⟨v',hv,hT⟩;cases hv
def kLo:IntKind→Int
  |.i8 => -128 | .i16 => -32768 | .i32 => -2147483648 | .i64 => -9223372036854775808
  |.u8 | .u16 | .u32 | .u64=>0
def kHi:IntKind→Int
  |.i8=>127 | .i16=>32767 | .i32=>2147483647 | .i64=>9223372036854775807
  |.u8=>255 | .u16=>65535 | .u32=>4294967295 | .u64=>18446744073709551615
theorem Lf (k:IntKind) (a:Int) (h:kLo k≤a∧a≤kHi k):k.wrap a=a:=by
  obtain⟨h1,h2⟩:=h
  cases k<;>simp only[kLo,kHi] at h1 h2<;>simp[IntKind.wrap,IntKind.signed,IntKind.bits]<;>omega
theorem Vy {dst : Option Tmp} {x y : Operand} {t t' ty : TypeId} {ps : String} {af : Array Edge} {g : Option (Nat × Bool)} {k : IntKind} {a b v : Int}
    (hx:ev n σ x = .int k a) (hy:ev n σ y = .int k b) (hr:kLo k≤a+b∧a+b≤kHi k) (hv:a+b=v:=by rfl):(execOp (ev n σ) ⟨dst,.binOp .add t x y t',ty,ps,af,g⟩).run P w = .ok (.value (.int k v)) w :=
  Jm (by subst hv;simp[H1,hx,hy,Ls,Lf k _ hr])
theorem X67 {ops : Array Oper} {rest : List Oper} {dst : Option Tmp} {x y : Operand} {t t' ty : TypeId} {ps : String} {af : Array Edge} {g : Option (Nat × Bool)} {k : IntKind} {a b v : Int}
    (hg:gOk ops n σ g=true) (hx:ev n σ x = .int k a) (hy:ev n σ y = .int k b) (hr:kLo k≤a+b∧a+b≤kHi k)
    (next:WO P n ops rest Q (Ci σ dst (.int k v)) w) (hv:a+b=v:=by rfl):WO P n ops (⟨dst,.binOp .add t x y t',ty,ps,af,g⟩::rest) Q σ w :=
  Db hg (Vy hx hy hr hv) next
theorem Q5a {dst : Option Tmp} {x y : Operand} {t t' ty : TypeId} {ps : String} {af : Array Edge} {g : Option (Nat × Bool)} {k : IntKind} {a b v : Int}
    (hx:ev n σ x = .int k a) (hy:ev n σ y = .int k b) (hr:kLo k≤a-b∧a-b≤kHi k) (hv:a-b=v:=by rfl):(execOp (ev n σ) ⟨dst,.binOp .sub t x y t',ty,ps,af,g⟩).run P w = .ok (.value (.int k v)) w :=
  Jm (by subst hv;simp[H1,hx,hy,Ls,Lf k _ hr])
theorem Q4s {ops : Array Oper} {rest : List Oper} {dst : Option Tmp} {x y : Operand} {t t' ty : TypeId} {ps : String} {af : Array Edge} {g : Option (Nat × Bool)} {k : IntKind} {a b v : Int}
    (hg:gOk ops n σ g=true) (hx:ev n σ x = .int k a) (hy:ev n σ y = .int k b) (hr:kLo k≤a-b∧a-b≤kHi k)
    (next:WO P n ops rest Q (Ci σ dst (.int k v)) w) (hv:a-b=v:=by rfl):WO P n ops (⟨dst,.binOp .sub t x y t',ty,ps,af,g⟩::rest) Q σ w :=
  Db hg (Q5a hx hy hr hv) next
theorem X74 {dst : Option Tmp} {x : Operand} {t ty : TypeId} {ps : String} {af : Array Edge} {g : Option (Nat × Bool)} {k : IntKind} {a v : Int}
    (hx:ev n σ x = .int k a) (hr:kLo k≤0-a∧0-a≤kHi k) (hv:0-a=v:=by omega):(execOp (ev n σ) ⟨dst,.unOp .neg t x,ty,ps,af,g⟩).run P w = .ok (.value (.int k v)) w :=
  Jm (by subst hv;simp only[H1,hx,Lf k _ hr])
theorem X75 {dst : Option Tmp} {x y : Operand} {t t' ty : TypeId} {ps : String} {af : Array Edge} {g : Option (Nat × Bool)} {k : IntKind} {a b v : Int}
    (hx:ev n σ x = .int k a) (hy:ev n σ y = .int k b) (hr:kLo k≤a*b∧a*b≤kHi k) (hv:a*b=v:=by rfl):(execOp (ev n σ) ⟨dst,.binOp .mul t x y t',ty,ps,af,g⟩).run P w = .ok (.value (.int k v)) w :=
  Jm (by subst hv;simp[H1,hx,hy,Ls,Lf k _ hr])
theorem X76 {dst : Option Tmp} {x : Operand} {t t' ty : TypeId} {ps : String} {af : Array Edge} {g : Option (Nat × Bool)} {k k' : IntKind} {a v : Int}
    (hx:ev n σ x = .int k a) (h1:P.underlying t=some (.int k)) (h2:P.underlying t'=some (.int k')) (hr:kLo k'≤a∧a≤kHi k')
    (hv:a=v:=by rfl) :
    (execOp (ev n σ) ⟨dst,.convert t t' x,ty,ps,af,g⟩).run P w = .ok (.value ((.int k' v))) w:=by
  subst hv
  simp[execOp,hx,convert,run_underlying h1,run_underlying h2,Conv.intToInt,Lf k' _ hr,go_sem]
theorem W7 {P:Program} {t:TypeId} (w:World) (d:Nat) (a b:Bool) (ht:P.underlying t=some .bool):(Op.equalIn (d+1) t (.bool a) (.bool b)).run P w = .ok (a == b) w:=by
  simp[Op.equalIn,run_underlying ht]
theorem Q7a {P:Program} {t:TypeId} (w:World) (a b:Bool) (ht:P.underlying t=some .bool):(binOp .eql t (.bool a) (.bool b)).run P w = .ok (.bool (a == b)) w:=by
  simp only[binOp]
  simp[Op.equal,Op.maxDepth,W7 w 9999 a b ht]
theorem Q69 {P:Program} {t:TypeId} (w:World) (a b:Bool) (ht:P.underlying t=some .bool):(binOp .neq t (.bool a) (.bool b)).run P w = .ok (.bool (!(a == b))) w:=by
  simp only[binOp]
  simp[Op.equal,Op.maxDepth,W7 w 9999 a b ht]
theorem X78 {dst : Option Tmp} {x y : Operand} {t t' ty : TypeId} {ps : String} {af : Array Edge} {g : Option (Nat × Bool)} {a b : Bool}
    (hx:ev n σ x = .bool a) (hy:ev n σ y = .bool b) (ht:P.underlying t=some .bool)
     :
    (execOp (ev n σ) ⟨dst,.binOp .eql t x y t',ty,ps,af,g⟩).run P w = .ok (.value ((.bool (a == b)))) w:=by
  simp[execOp,hx,hy,eqGuard,Q7a w a b ht,go_sem]
theorem X77 {dst : Option Tmp} {x y : Operand} {t t' ty : TypeId} {ps : String} {af : Array Edge} {g : Option (Nat × Bool)} {a b : Bool}
    (hx:ev n σ x = .bool a) (hy:ev n σ y = .bool b) (ht:P.underlying t=some .bool)
     :
    (execOp (ev n σ) ⟨dst,.binOp .neq t x y t',ty,ps,af,g⟩).run P w = .ok (.value ((.bool (!(a == b))))) w:=by
  simp[execOp,hx,hy,eqGuard,Q69 w a b ht,go_sem]
theorem Ms (l:List UInt8):(⟨l.toArray⟩:ByteArray).toList=l:=by rw[Lib.toList_data]
theorem Hb (l:List UInt8):(⟨l.toArray⟩:ByteArray).size=l.length:=by simp[ByteArray.size]
def As (l:List UInt8) (j:Nat):UInt8:=l.getD j 0
theorem Jx {l:List UInt8} {j:Nat} (h:j < l.length):As l j=l[j]:=by
  unfold As;rw[List.getD_eq_getElem?_getD,List.getElem?_eq_getElem h];rfl
theorem X5l (l:List UInt8) (j:Nat):(As l j).toNat < 256:=UInt8.toNat_lt _
theorem Q5c {dst : Option Tmp} {x : Operand} {t ty : TypeId} {ps : String} {af : Array Edge} {g : Option (Nat × Bool)} {l : List UInt8}
    (hx:ev n σ x=S l) (ht:P.underlying t=some .string)
     :
    (execOp (ev n σ) ⟨dst,.call { callee:=.builtin .len,args := #[x],argTypes := #[t] },ty,ps,af,g⟩).run P w = .ok (.value ((.int .i64 (l.length:Int)))) w:=by
  simp[execOp,resolve,invoke,builtin,Builtin.len_,hx,S,run_underlying ht,go_sem,Hb,goInt]
theorem Rb {ops : Array Oper} {rest : List Oper} {dst : Option Tmp} {x : Operand} {t ty : TypeId} {ps : String} {af : Array Edge} {g : Option (Nat × Bool)} {l : List UInt8}
    (hg:gOk ops n σ g=true) (hx:ev n σ x=S l) (ht:P.underlying t=some .string)
    (next:WO P n ops rest Q (Ci σ dst ((.int .i64 (l.length:Int)))) w):WO P n ops (⟨dst,.call { callee:=.builtin .len,args := #[x],argTypes := #[t] },ty,ps,af,g⟩::rest) Q σ w :=
  Db hg (Q5c hx ht) next
theorem Q5d {dst : Option Tmp} {x i : Operand} {t ty : TypeId} {ps : String} {af : Array Edge} {g : Option (Nat × Bool)} {l : List UInt8} {k : IntKind} {a : Int} {j : Nat}
    (hx:ev n σ x=S l) (hi:ev n σ i = .int k a) (ht:P.underlying t=some .string) (hj:a=(j:Int)) (hlt:j < l.length)
     :
    (execOp (ev n σ) ⟨dst,.index t x i,ty,ps,af,g⟩).run P w = .ok (.value ((.int .u8 ((As l j).toNat:Int)))) w:=by
  subst hj
  have h:(⟨l.toArray⟩:ByteArray)[j]? = some (As l j):=by
    have hs:j < (⟨l.toArray⟩:ByteArray).size:=by rw[Hb];exact hlt
    rw[getElem?_pos (⟨l.toArray⟩:ByteArray) j hs]
    simp only[Option.some.injEq]
    rw[Jx hlt]
    rfl
  simp[execOp,Instr.index,hx,hi,S,run_underlying ht,go_sem,h]
theorem X65 {ops : Array Oper} {rest : List Oper} {dst : Option Tmp} {x i : Operand} {t ty : TypeId} {ps : String} {af : Array Edge} {g : Option (Nat × Bool)} {l : List UInt8} {k : IntKind} {a : Int} {j : Nat}
    (hg:gOk ops n σ g=true) (hx:ev n σ x=S l) (hi:ev n σ i = .int k a) (ht:P.underlying t=some .string) (hj:a=(j:Int)) (hlt:j < l.length)
    (next:WO P n ops rest Q (Ci σ dst ((.int .u8 ((As l j).toNat:Int)))) w):WO P n ops (⟨dst,.index t x i,ty,ps,af,g⟩::rest) Q σ w :=
  Db hg (Q5d hx hi ht hj hlt) next
theorem Vw {dst : Option Tmp} {x y : Operand} {t t' ty : TypeId} {ps : String} {af : Array Edge} {g : Option (Nat × Bool)} {l1 l2 : List UInt8}
    (hx:ev n σ x=S l1) (hy:ev n σ y=S l2)
     :
    (execOp (ev n σ) ⟨dst,.binOp .eql t x y t',ty,ps,af,g⟩).run P w = .ok (.value ((.bool (decide (l1=l2))))) w:=by
  simp[execOp,hx,hy,S,eqGuard,binOp,Op.stringOp,Ms,go_sem]
  rw[Bool.eq_iff_iff];simp
theorem Q4u {ops : Array Oper} {rest : List Oper} {dst : Option Tmp} {x y : Operand} {t t' ty : TypeId} {ps : String} {af : Array Edge} {g : Option (Nat × Bool)} {l1 l2 : List UInt8}
    (hg:gOk ops n σ g=true) (hx:ev n σ x=S l1) (hy:ev n σ y=S l2)
    (next:WO P n ops rest Q (Ci σ dst ((.bool (decide (l1=l2))))) w):WO P n ops (⟨dst,.binOp .eql t x y t',ty,ps,af,g⟩::rest) Q σ w :=
  Db hg (Vw hx hy) next
theorem X7z {dst : Option Tmp} {x y : Operand} {t t' ty : TypeId} {ps : String} {af : Array Edge} {g : Option (Nat × Bool)} {l1 l2 : List UInt8}
    (hx:ev n σ x=S l1) (hy:ev n σ y=S l2)
     :
    (execOp (ev n σ) ⟨dst,.binOp .neq t x y t',ty,ps,af,g⟩).run P w = .ok (.value ((.bool (!decide (l1=l2))))) w:=by
  simp[execOp,hx,hy,S,eqGuard,binOp,Op.stringOp,Ms,go_sem]
  rw[Bool.eq_iff_iff];simp
theorem X70 {dst : Option Tmp} {x y : Operand} {t t' ty : TypeId} {ps : String} {af : Array Edge} {g : Option (Nat × Bool)} {l1 l2 : List UInt8}
    (hx:ev n σ x=S l1) (hy:ev n σ y=S l2)
     :
    (execOp (ev n σ) ⟨dst,.binOp .lss t x y t',ty,ps,af,g⟩).run P w = .ok (.value ((.bool (Op.bytesLess l1 l2)))) w:=by
  simp[execOp,hx,hy,S,eqGuard,binOp,Op.stringOp,Ms,go_sem]
theorem X71 {dst : Option Tmp} {x y : Operand} {t t' ty : TypeId} {ps : String} {af : Array Edge} {g : Option (Nat × Bool)} {l1 l2 : List UInt8}
    (hx:ev n σ x=S l1) (hy:ev n σ y=S l2) (hl:l1.length+l2.length≤9223372036854775807)
     :
    (execOp (ev n σ) ⟨dst,.binOp .add t x y t',ty,ps,af,g⟩).run P w = .ok (.value ((S (l1++l2)))) w:=by
  have h1:¬(((l1.length+l2.length:Nat):Int) > IntKind.i64.max):=by
    have:IntKind.i64.max=9223372036854775807:=by decide
    rw[this];omega
  have h2:(⟨l1.toArray⟩:ByteArray)++⟨l2.toArray⟩=⟨(l1++l2).toArray⟩:=by
    apply ByteArray.ext;simp[ByteArray.data_append]
  simp only[execOp,hx,hy,S,eqGuard,binOp,Op.stringOp,Hb,h2]
  rw[if_neg h1]
  simp[go_sem]
theorem Sb {P : Program} {t : TypeId} (w : World) (l : List UInt8) (lo hi : Option Value) (i j : Nat) (ht : P.underlying t = some .string)
    (h1:(lo=none∧i=0)∨∃k,lo=some (.int k (i:Int))) (h2:(hi=none∧j=l.length)∨∃k,hi=some (.int k (j:Int))) (hij:i≤j) (hj:j≤l.length) :
    (Instr.slice t (S l) lo hi none).run P w = .ok (S ((l.take j).drop i)) w:=by
  have he:(⟨l.toArray⟩:ByteArray).extract i j=⟨((l.take j).drop i).toArray⟩:=by
    apply ByteArray.ext
    simp[ByteArray.data_extract,List.drop_take]
  have e1:(0:Int)≤(j:Int)∧(j:Int)≤(l.length:Int):=by omega
  have e2:(0:Int)≤(i:Int)∧(i:Int)≤(j:Int):=by omega
  rcases h1 with⟨rfl,rfl⟩|⟨k1,rfl⟩<;>rcases h2 with⟨rfl,rfl⟩|⟨k2,rfl⟩ <;>
    simp[Instr.slice,S,run_underlying ht,Instr.sliceBounds,Instr.sliceBound,asIntOf,Hb,he,e1,e2,go_sem]<;>first|done|(intro h;exfalso;omega)|(split<;>first|(exfalso;omega)|simp_all)|simp_all
theorem X7y {dst : Option Tmp} {x y : Operand} {t ty : TypeId} {ps : String} {af : Array Edge} {g : Option (Nat × Bool)} {l : List UInt8} {k : IntKind} {a : Int} {i : Nat}
    (hx:ev n σ x=S l) (hy:ev n σ y = .int k a) (ht:P.underlying t=some .string) (ha:a=(i:Int)) (hi:i≤l.length)
     :
    (execOp (ev n σ) ⟨dst,.slice t x (some y) none none,ty,ps,af,g⟩).run P w = .ok (.value ((S (l.drop i)))) w:=by
  subst ha
  have hr:=Sb (P:=P) w l (some (.int k (i:Int))) none i l.length ht (.inr ⟨k,rfl⟩) (.inl ⟨rfl,rfl⟩) hi (Nat.le_refl _)
  rw[List.take_length] at hr
  simp[execOp,Instr.sliceAt,run_underlying ht,hx,hy,hr,go_sem]
theorem Q5b {dst : Option Tmp} {x y : Operand} {t ty : TypeId} {ps : String} {af : Array Edge} {g : Option (Nat × Bool)} {l : List UInt8} {k : IntKind} {a : Int} {j : Nat}
    (hx:ev n σ x=S l) (hy:ev n σ y = .int k a) (ht:P.underlying t=some .string) (ha:a=(j:Int)) (hj:j≤l.length)
     :
    (execOp (ev n σ) ⟨dst,.slice t x none (some y) none,ty,ps,af,g⟩).run P w = .ok (.value ((S (l.take j)))) w:=by
  subst ha
  have hr:=Sb (P:=P) w l none (some (.int k (j:Int))) 0 j ht (.inl ⟨rfl,rfl⟩) (.inr ⟨k,rfl⟩) (Nat.zero_le _) hj
  rw[List.drop_zero] at hr
  simp[execOp,Instr.sliceAt,run_underlying ht,hx,hy,hr,go_sem]
theorem X62 {ops : Array Oper} {rest : List Oper} {dst : Option Tmp} {x y : Operand} {t ty : TypeId} {ps : String} {af : Array Edge} {g : Option (Nat × Bool)} {l : List UInt8} {k : IntKind} {a : Int} {j : Nat}
    (hg:gOk ops n σ g=true) (hx:ev n σ x=S l) (hy:ev n σ y = .int k a) (ht:P.underlying t=some .string) (ha:a=(j:Int)) (hj:j≤l.length)
    (next:WO P n ops rest Q (Ci σ dst ((S (l.take j)))) w):WO P n ops (⟨dst,.slice t x none (some y) none,ty,ps,af,g⟩::rest) Q σ w :=
  Db hg (Q5b hx hy ht ha hj) next
end
theorem Ro {P:Program} {ops:Array Oper} {C:World→Prop} {Q Q':Act→Prop} (hq:∀a,Q a→Q' a):∀(l:List Oper) (a:Act),wpQuiet P ops C Q l a→wpQuiet P ops C Q' l a
  |[],a,h=>hq a h
  |o::rest,a,h=>by
    unfold wpQuiet at h ⊢
    split
    · rename_i hw;rw[if_pos hw] at h
      obtain⟨v,h1,h2⟩:=h
      exact⟨v,h1,Ro hq rest _ h2⟩
    · rename_i hw;rw[if_neg hw] at h
      exact Ro hq rest _ h
def WQ (P:Program) (n:Nat) (ops:Array Oper) (C:World→Prop) (l:List Oper) (K:(Nat→Value)→Prop) (σ:Nat→Value):Prop :=
  wpQuiet P ops C (fun a=>∃σ,a=mk n σ∧K σ) l (mk n σ)
section
variable {P : Program} {n : Nat} {Q : Exit → (Nat → Value) → World → Prop} {K : (Nat → Value) → Prop} {σ : Nat → Value} {w : World} {C : World → Prop}
theorem X6y {id : Nat} {l : List Oper} (hm : P.follows .mixedOrders = true) (hB : Region.lexB .any l.toArray = true) (hC : C { w with drawn := w.drawn + 1 })
    (h:WQ P n l.toArray C l (fun σ=>∀w',C w'→Q .normal σ w') σ):W P n (.region id l.toArray true) Q σ w:=by
  refine wp_region_quiet hm hB hC ?_
  show wpQuiet P l.toArray C (fun a'=>∀w',C w'→F8 n Q .normal a' w') l (mk n σ)
  refine Ro ?_ l _ h
  rintro a ⟨σ',rfl,hK⟩ w' hw'
  exact⟨σ',rfl,hK w' hw'⟩
def Drew (w w':World):Prop:=∃k,w'=w.drewN k
theorem X6z {id : Nat} {l : List Oper} (hm : P.follows .mixedOrders = true) (hB : Region.lexB .any l.toArray = true)
    (h:WQ P n l.toArray (Drew w) l (fun σ=>∀w',Drew w w'→Q .normal σ w') σ):W P n (.region id l.toArray true) Q σ w :=
  X6y hm hB ⟨1,rfl⟩ h
theorem X61 {ops:Array Oper} (h:K σ):WQ P n ops C [] K σ:=⟨σ,rfl,h⟩
theorem Om {ops : Array Oper} {o : Oper} {rest : List Oper} {v : Value} (hg : gOk ops n σ o.guard = true) (h : ∀ w, C w → (execOp (ev n σ) o).run P w = .ok (.value v) w)
    (next:WQ P n ops C rest K (Ci σ o.dst v)):WQ P n ops C (o::rest) K σ:=by
  unfold WQ wpQuiet
  rw[wanted_mk,hg,if_pos rfl]
  refine⟨v,fun w hw=>?_,?_⟩
  · unfold Oper.quietAt;rw[Gm,h w hw];exact⟨rfl,rfl⟩
  · rw[G3];exact next
theorem J2 {ops : Array Oper} {o : Oper} {rest : List Oper} {v : Value} (hg : gOk ops n σ o.guard = true) (h : H1 n σ o.op = some v)
    (next:WQ P n ops C rest K (Ci σ o.dst v)):WQ P n ops C (o::rest) K σ:=Om hg (fun _ _=>Jm h) next
end
section
variable {P : Program} {n : Nat} {K : (Nat → Value) → Prop} {σ : Nat → Value} {C : World → Prop}
end
attribute [irreducible] WQ
attribute [irreducible] W WO
end
section
open Go Go.RowKit
def New (w w':World) (o:Obj):Prop:=w'=w.alloc o
structure Upd (w w':World) (k:Nat) (o:Obj):Prop where
  os:w'.os=w.os
  tape:w'.tape=w.tape
  output:w'.output=w.output
  size:w'.heap.size=w.heap.size
  here:w'.heap[k]? = some o
  block:∀j,j≠k→w'.heap[j]? = w.heap[j]?
theorem L9 {w:World} {k:Nat} {o:Obj} (h:w.heap[k]? = some o):k < w.heap.size:=(Array.getElem?_eq_some_iff.1 h).1
section
variable {w w' w0 : World} {o x : Obj} {k j B : Nat}
theorem New.size (h:New w w' o):w'.heap.size=w.heap.size+1:=by unfold New at h;subst h;simp
theorem New.here (h:New w w' o):w'.heap[w.heap.size]? = some o:=by unfold New at h;subst h;exact heap_alloc_new w o
theorem New.keep (h:New w w' o) (hk:w.heap[k]? = some x):w'.heap[k]? = some x:=by
  unfold New at h;subst h;exact(heap_alloc_old w o (L9 hk)).trans hk
theorem New.below (h:New w w' o) (hb:Below B w0 w) (hB:B≤w.heap.size):Below B w0 w':=by
  unfold New at h;subst h;exact hb.alloc hB o
theorem New.ext (h:New w w' o):Below w.heap.size w w':=h.below (Below.refl _ _) (Nat.le_refl _)
theorem Upd.keep (h:Upd w w' k o) (hj:w.heap[j]? = some x) (hne:j≠k):w'.heap[j]? = some x:=by rw[h.block j hne];exact hj
theorem Upd.below (h:Upd w w' k o) (hb:Below B w0 w) (hB:B≤k):Below B w0 w' :=
  hb.trans ⟨h.os,h.tape,h.output,by rw[h.size];exact Nat.le_refl _,fun i hi=>h.block i (by omega)⟩
theorem Upd.grown (h:Upd w w' k o):w.grownBy w' (some k) :=
  ⟨h.os,h.tape,h.output,by rw[h.size];exact Nat.le_refl _,fun i _ hne=>h.block i (fun e=>hne (by rw[e]))⟩
theorem X5z (h:Below w.heap.size w w') (hk:w.heap[k]? = some x):w'.heap[k]? = some x:=by rw[h.block k (L9 hk)];exact hk
theorem Q3x (h:Below w0.heap.size w0 w) (h':Below w.heap.size w w'):Below w0.heap.size w0 w':=h.trans (h'.mono h.size)
end
theorem Drew.ext {w w':World} (h:Drew w w'):Below w.heap.size w w':=by obtain⟨m,rfl⟩:=h;exact⟨rfl,rfl,rfl,Nat.le_refl _,fun _ _=>rfl⟩
theorem Drew.below {w0 w w':World} {B:Nat} (h:Drew w w') (hb:Below B w0 w):Below B w0 w':=by obtain⟨m,rfl⟩:=h;exact⟨hb.os,hb.tape,hb.output,hb.size,hb.block⟩
theorem X45 {l:List UInt8} {p:Nat} (h:p < l.length) (ha:(As l p).toNat < 128):Utf8.decode ⟨l.toArray⟩ p=((As l p).toNat,1):=by
  have hs:p < (⟨l.toArray⟩:ByteArray).size:=by rw[Hb];exact h
  have hb:((⟨l.toArray⟩:ByteArray)[p]'hs)=As l p:=by rw[Jx h];rfl
  have:=decode_ascii ⟨l.toArray⟩ p hs (by rw[hb];exact ha)
  rw[this,hb]
theorem X44 {l:List UInt8} {p:Nat} (h:p < l.length) (ha:128≤(As l p).toNat):128≤(Utf8.decode ⟨l.toArray⟩ p).1∧(Utf8.decode ⟨l.toArray⟩ p).1≤1114111∧1≤(Utf8.decode ⟨l.toArray⟩ p).2:=by
  have hg:((⟨l.toArray⟩:ByteArray).get! (p+0)).toNat=(As l p).toNat:=by
    simp only[ByteArray.get!,As,Nat.add_zero]
    rw[List.getD_eq_getElem?_getD]
    simp[show(default:UInt8)=0 from rfl]
  have hlt:=X5l l p
  unfold Utf8.decode
  simp only[hg]
  rw[if_neg (by omega)]
  split
  · split
    · refine⟨by assumption,?_,by simp⟩
      simp only
      omega
    · exact⟨by simp[Utf8.runeError],by simp[Utf8.runeError],by simp⟩
  · split
    · split
      · rename_i h2
        simp only[Bool.and_eq_true,decide_eq_true_eq,ge_iff_le] at h2
        refine⟨?_,?_,by simp⟩
        · exact Nat.le_trans (by decide) h2.1
        · simp only
          omega
      · exact⟨by simp[Utf8.runeError],by simp[Utf8.runeError],by simp⟩
    · split
      · split
        · rename_i h2
          simp only[Bool.and_eq_true,decide_eq_true_eq,ge_iff_le] at h2
          refine⟨Nat.le_trans (by decide) h2.1,?_,by simp⟩
          have hv:=h2.2
          simp only[Utf8.valid,Bool.or_eq_true,Bool.and_eq_true,decide_eq_true_eq] at hv
          simp only
          omega
        · exact⟨by simp[Utf8.runeError],by simp[Utf8.runeError],by simp⟩
      · exact⟨by simp[Utf8.runeError],by simp[Utf8.runeError],by simp⟩
section
variable {P : Program} {n : Nat} {Q : Exit → (Nat → Value) → World → Prop} {σ : Nat → Value} {w : World}
variable {ops : Array Oper} {rest : List Oper} {dst : Option Tmp} {ty : TypeId} {ps : String} {af : Array Edge} {g : Option (Nat × Bool)}
end
end
section
open Go Go.RowKit
def MapIs (w:World) (b:Nat) (l:List (Value × Value)):Prop:=∃es clock,w.heap[b]? = some (.map es clock)∧es.toList.map (fun e=>(e.key,e.val))=l
theorem MapIs.lt {w:World} {b:Nat} {l:List (Value × Value)} (h:MapIs w b l):b < w.heap.size:=by obtain⟨es,c,h,_⟩:=h;exact L9 h
theorem MapIs.new {w w':World} {b:Nat} {l:List (Value × Value)} {o:Obj} (h:MapIs w b l) (n:New w w' o):MapIs w' b l:=by
  obtain⟨es,c,h,e⟩:=h;exact⟨es,c,n.keep h,e⟩
theorem MapIs.upd {w w':World} {b k:Nat} {l:List (Value × Value)} {o:Obj} (h:MapIs w b l) (u:Upd w w' k o) (hne:b≠k):MapIs w' b l:=by
  obtain⟨es,c,h,e⟩:=h;exact⟨es,c,u.keep h hne,e⟩
theorem MapIs.below {w w':World} {b:Nat} {l:List (Value × Value)} (h:MapIs w b l) (hb:Below w.heap.size w w'):MapIs w' b l:=by
  obtain⟨es,c,h,e⟩:=h;exact⟨es,c,X5z hb h,e⟩
structure Key (P:Program) (kt:TypeId) {κ:Type} [DecidableEq κ] (enc:κ→Value):Prop where
  d:∃d,P.underlying kt=some d∧∀a b,Instr.sameNow d (enc a) (enc b)=some (decide (a=b))
  check:∀(e:Bool) (m:Nat) (v:κ) (w:World),(Instr.checkKey e (m+1) kt (enc v)).run P w = .ok () w
  bits:∀v:κ,Instr.sameBits 10000 (enc v) (enc v)=true
theorem Q3w (a b:List UInt8):((⟨a.toArray⟩:ByteArray) == ⟨b.toArray⟩)=decide (a=b):=by
  have:((⟨a.toArray⟩:ByteArray) == ⟨b.toArray⟩)=(a.toArray == b.toArray):=rfl
  rw[this,Bool.eq_iff_iff];simp
theorem Tk {P:Program} {kt:TypeId} (h:P.underlying kt=some .string):Key P kt S where
  d:=⟨_,h,fun a b=>by
    simp only[S,Instr.sameNow,Q3w]⟩
  check e m v w:=by simp[Instr.checkKey,S,run_underlying h]
  bits v:=by simp[S,Instr.sameBits,Q3w]
abbrev I64 (n:Int):Value:=.int .i64 n
theorem Tl {P:Program} {kt:TypeId} (h:P.underlying kt=some (.int .i64)):Key P kt I64 where
  d:=⟨_,h,fun a b=>by
    simp only[I64,Instr.sameNow]
    simp only[if_true,Option.some.injEq]
    rw[Bool.eq_iff_iff];simp⟩
  check e m v w:=by simp[Instr.checkKey,run_underlying h]
  bits v:=by simp[Instr.sameBits]
section
variable {κ α : Type} [DecidableEq κ]
def Bx (m:List (κ × α)) (k:κ):Option α:=(m.find? (fun p=>decide (k=p.1))).map (·.2)
def Ec (m:List (κ × α)) (k:κ) (a:α):List (κ × α):=if (Bx m k).isSome then m.map (fun p=>if k=p.1 then (p.1,a) else p) else m++[(k,a)]
def D6 (enc:κ→Value) (val:α→Value) (m:List (κ × α)):List (Value × Value):=m.map fun p=>(enc p.1,val p.2)
theorem X2j {d : TypeDesc} {enc : κ → Value} {val : α → Value} (hd : ∀ a b, Instr.sameNow d (enc a) (enc b) = some (decide (a = b))) (k : κ) :
    ∀(es:List MapEntry) (m:List (κ × α)) (i:Nat),es.map (fun e=>(e.key,e.val))=D6 enc val m →
      ∃r,Instr.findNow d (enc k) es i=some r∧r.map (·.2)=(Bx m k).map val∧∀j v,r=some (j,v)→i≤j∧(m[j-i]?).map (·.1)=some k∧∀q,q < j-i→(m[q]?).map (·.1)≠some k:=by
  intro es
  induction es with
  |nil =>
    intro m i h
    cases m with
    |nil=>exact⟨none,rfl,rfl,by simp⟩
    |cons p m=>simp[D6] at h
  |cons e es ih =>
    intro m i h
    cases m with
    |nil=>simp[D6] at h
    |cons p m =>
      simp only[D6,List.map_cons,List.cons.injEq,Prod.mk.injEq] at h
      obtain⟨⟨hk,hv⟩,hr⟩:=h
      simp only[Instr.findNow,hk,hd]
      by_cases hkp:k=p.1
      · rw[decide_eq_true hkp]
        refine⟨some (i,e.val),rfl,?_,?_⟩
        · simp[Bx,hkp,hv]
        · intro j v hj;cases hj;simp[hkp]
      · rw[decide_eq_false hkp]
        obtain⟨r,h1,h2,h3⟩:=ih m (i+1) (by simpa [D6] using hr)
        refine⟨r,h1,?_,?_⟩
        · rw[h2];simp[Bx,List.find?_cons,hkp]
        · intro j v hj
          obtain⟨a,b,c⟩:=h3 j v hj
          refine⟨by omega,?_,?_⟩
          · rw[show j-i=(j-(i+1))+1 by omega];simpa using b
          · intro q hq
            cases q with
            |zero=>simp;exact fun h=>hkp h.symm
            |succ q=>simpa using c q (by omega)
theorem Sc {P : Program} {kt : TypeId} {enc : κ → Value} {val : α → Value} (hK : Key P kt enc) (k : κ) (es : List MapEntry) (m : List (κ × α)) (h : es.map (fun e => (e.key, e.val)) = D6 enc val m) (w : World) :
    ∃r,(Instr.findKey kt (enc k) es).run P w = .ok r w∧r.map (·.2)=(Bx m k).map val∧∀j v,r=some (j,v)→(m[j]?).map (·.1)=some k∧∀q,q < j→(m[q]?).map (·.1)≠some k:=by
  obtain⟨d,hd,hs⟩:=hK.d
  obtain⟨r,h1,h2,h3⟩:=X2j hs k es m 0 h
  refine⟨r,?_,h2,fun j v hj=>?_⟩
  · simp[Instr.findKey,run_underlying hd,h1]
  · obtain⟨_,b,c⟩:=h3 j v hj
    exact⟨by simpa using b,fun q hq=>c q (by simpa using hq)⟩
theorem Q67 {P : Program} {t kt et : TypeId} {enc : κ → Value} {val : α → Value} {z : Value} (hK : Key P kt enc) (ht : P.underlying t = some (.map kt et)) (hz : ∀ w, (zeroValue et).run P w = .ok z w)
    (w:World) (b:Nat) (m:List (κ × α)) (k:κ) (hm:MapIs w b (D6 enc val m)) (ok:Bool) :
    (Instr.lookup t (.map (some b)) (enc k) ok).run P w = .ok (bif ok then .tuple #[((Bx m k).map val).getD z,.bool (Bx m k).isSome] else ((Bx m k).map val).getD z) w:=by
  obtain⟨es,clock,hb,he⟩:=hm
  obtain⟨r,h1,h2,_⟩:=Sc hK k es.toList m he w
  have hc:=hK.check es.isEmpty 9999 k w
  simp only[Instr.lookup]
  simp[run_underlying ht,getObj,Sem.run,hb,hc,h1]
  cases r with
  |none =>
    cases hl:Bx m k with
    |none=>cases ok<;>simp[hz]
    |some a=>rw[hl] at h2;simp at h2
  |some p =>
    cases hl:Bx m k with
    |none=>rw[hl] at h2;simp at h2
    |some a=>rw[hl] at h2;simp at h2;cases ok<;>simp[h2]
theorem Q38 (m:List (κ × α)) (k:κ):Bx m k=none↔∀p∈m,p.1≠k:=by
  unfold Bx
  rw[Option.map_eq_none_iff,List.find?_eq_none]
  simp only[decide_eq_true_eq]
  exact⟨fun h p hp e=>h p hp e.symm,fun h p hp e=>h p hp e.symm⟩
def Once (m:List (κ × α)):Prop:=(m.map (·.1)).Nodup
theorem X58 (m:List (κ × α)) (k:κ) (a:α):(Ec m k a).map (·.1)=if (Bx m k).isSome then m.map (·.1) else m.map (·.1)++[k]:=by
  unfold Ec
  split
  · rw[List.map_map]
    refine List.map_congr_left fun p _=>?_
    simp only[Function.comp];split<;>rfl
  · simp
theorem Once.put {m:List (κ × α)} (h:Once m) (k:κ) (a:α):Once (Ec m k a):=by
  unfold Once at *
  rw[X58]
  split
  · exact h
  · rename_i hn
    have hn':Bx m k=none:=by simpa using hn
    rw[Q38] at hn'
    rw[List.nodup_append]
    refine⟨h,by simp,fun x hx y hy=>?_⟩
    simp only[List.mem_singleton] at hy;subst hy
    rw[List.mem_map] at hx
    obtain⟨p,hp,rfl⟩:=hx
    exact hn' p hp
theorem Mr (m:List (κ × α)) (k:κ) (a:α):Bx (Ec m k a) k=some a:=by
  unfold Ec
  split
  · rename_i h
    unfold Bx at h ⊢
    induction m with
    |nil=>simp at h
    |cons p m ih =>
      by_cases hk:k=p.1
      · simp[hk]
      · simp only[List.map_cons,if_neg hk,List.find?_cons,decide_eq_false hk] at h ⊢
        exact ih h
  · rename_i h
    have h':Bx m k=none:=by simpa using h
    have h2:=h'
    unfold Bx at h' ⊢
    rw[List.find?_append]
    simp only[Option.map_eq_none_iff] at h'
    simp[h']
theorem X6d (m:List (κ × α)) (k j:κ) (a:α) (hne:j≠k):Bx (Ec m k a) j=Bx m j:=by
  unfold Ec
  split
  · unfold Bx
    induction m with
    |nil=>rfl
    |cons p m ih =>
      simp only[List.map_cons,List.find?_cons]
      by_cases hk:k=p.1
      · rw[if_pos hk]
        have:¬j=p.1:=fun e=>hne (e.trans hk.symm)
        rename_i hs
        simp only[decide_eq_false this]
        by_cases hm:(Bx m k).isSome
        · exact ih hm
        · have hn:Bx m k=none:=by simpa using hm
          rw[Q38] at hn
          rw[List.map_congr_left (g:=id) (fun q hq=>by rw[if_neg (fun e=>hn q hq e.symm)];rfl),List.map_id]
      · rw[if_neg hk]
        by_cases hj:j=p.1
        · simp[hj]
        · simp only[decide_eq_false hj]
          rename_i hs
          refine ih ?_
          unfold Bx at hs ⊢
          simpa [List.find?_cons,hk] using hs
  · unfold Bx
    rw[List.find?_append]
    simp[hne]
theorem X0v {m:List (κ × α)} {k:κ} {a:α} {j:Nat} (ho:Once m) (hj:(m[j]?).map (·.1)=some k):m.map (fun p=>if k=p.1 then (p.1,a) else p)=m.modify j (fun p=>(p.1,a)):=by
  apply List.ext_getElem?
  intro i
  rw[List.getElem?_map,List.getElem?_modify]
  cases hi:m[i]? with
  |none=>simp
  |some p =>
    simp only[Option.map_some,Option.map_eq_map]
    by_cases hij:j=i
    · subst hij
      rw[hi] at hj
      simp at hj
      simp[hj]
    · rw[if_neg hij]
      congr 1
      rw[if_neg]
      intro hk
      apply hij
      cases hjj:m[j]? with
      |none=>rw[hjj] at hj;simp at hj
      |some q =>
        rw[hjj] at hj;simp at hj
        have h1:(m.map (·.1))[j]? = some k:=by rw[List.getElem?_map,hjj];simp[hj]
        have h2:(m.map (·.1))[i]? = some k:=by rw[List.getElem?_map,hi];simp[hk]
        have hlt:j < (m.map (·.1)).length:=(List.getElem?_eq_some_iff.1 h1).1
        exact(List.getElem?_inj hlt ho).1 (h1.trans h2.symm)
theorem Q66 {P : Program} {t kt et : TypeId} {enc : κ → Value} {val : α → Value} (hK : Key P kt enc) (ht : P.underlying t = some (.map kt et))
    (w:World) (b:Nat) (m:List (κ × α)) (k:κ) (a:α) (ho:Once m) (hm:MapIs w b (D6 enc val m)) :
    ∃w' o,(Instr.mapUpdate t (.map (some b)) (enc k) (val a)).run P w = .ok () w'∧Upd w w' b o∧MapIs w' b (D6 enc val (Ec m k a)):=by
  obtain⟨es,clock,hb,he⟩:=hm
  obtain⟨r,h1,h2,h3⟩:=Sc hK k es.toList m he w
  have hc:=hK.check false 9999 k w
  have hlt:=L9 hb
  have hupd:∀o:Obj,Upd w { w with heap:=w.heap.setIfInBounds b o } b o:=fun o =>
    ⟨rfl,rfl,rfl,by simp,by simp[hlt],fun j hj=>by simp[Array.getElem?_setIfInBounds,Ne.symm hj]⟩
  cases r with
  |none =>
    have hl:Bx m k=none:=by
      cases hl:Bx m k with
      |none=>rfl
      |some x=>rw[hl] at h2;simp at h2
    refine⟨_,.map (es.push { key:=enc k,val:=val a,born:=clock }) (clock+1),?_,hupd _,⟨_,_,(hupd _).here,?_⟩⟩
    · simp[Instr.mapUpdate,run_underlying ht,getObj,setObj,Sem.run,hb,hc,h1]
    · simp[Ec,hl,D6,he]
  |some p =>
    obtain⟨j,v⟩:=p
    obtain⟨hj,_⟩:=h3 j v rfl
    have hs:(Bx m k).isSome=true:=by
      cases hl:Bx m k with
      |none=>rw[hl] at h2;simp at h2
      |some x=>rfl
    have hkey:((es[j]?).map (·.key))=some (enc k):=by
      have h4:(es.toList.map (fun e=>(e.key,e.val)))[j]? = (D6 enc val m)[j]? :=by rw[he]
      rw[List.getElem?_map] at h4
      simp only[D6,List.getElem?_map] at h4
      cases hmj:m[j]? with
      |none=>rw[hmj] at hj;simp at hj
      |some q =>
        rw[hmj] at hj h4
        simp at hj h4
        obtain⟨e,he1,he2,_⟩:=h4
        simp[he1,he2,hj]
    refine⟨_,.map (es.modify j fun e => { e with key:=enc k,val:=val a }) clock,?_,hupd _,⟨_,_,(hupd _).here,?_⟩⟩
    · simp[Instr.mapUpdate,run_underlying ht,getObj,setObj,Sem.run,hb,hc,h1,hkey,Instr.keyThatStays,hK.bits]
    · have e1 : (Ec m k a) = m.modify j (fun p => (p.1, a)) := by
        unfold Ec;rw[if_pos hs,X0v ho hj]
      rw[e1]
      have h4:es.toList.map (fun e=>(e.key,e.val))=D6 enc val m:=he
      apply List.ext_getElem?
      intro i
      have h5:=congrArg (·[i]?) h4
      simp only[D6,List.getElem?_map] at h5 ⊢
      simp only[Array.toList_modify,List.getElem?_modify]
      by_cases hij:j=i
      · subst hij
        cases hmj:m[j]? with
        |none=>rw[hmj] at hj;simp at hj
        |some q =>
          rw[hmj] at h5 hj
          simp at h5 hj
          obtain⟨e,he1,he2,he3⟩:=h5
          simp[he1,hj]
      · simp only[if_neg hij]
        simpa using h5
end
section
variable {P : Program} {n : Nat} {Q : Exit → (Nat → Value) → World → Prop} {σ : Nat → Value} {w : World}
variable {ops : Array Oper} {rest : List Oper} {dst : Option Tmp} {ty : TypeId} {ps : String} {af : Array Edge} {g : Option (Nat × Bool)}
variable {κ α : Type} [DecidableEq κ]
theorem Vx {t kt et : TypeId} {x i : Operand} {enc : κ → Value} {val : α → Value} {z : Value} {b : Nat} {m : List (κ × α)} {k : κ} (hx : ev n σ x = .map (some b)) (hi : ev n σ i = enc k) (hm : MapIs w b (D6 enc val m)) (hK : Key P kt enc) (ht : P.underlying t = some (.map kt et)) (hz : ∀ w, (zeroValue et).run P w = .ok z w)
     :
    (execOp (ev n σ) ⟨dst,.lookup t x i false,ty,ps,af,g⟩).run P w = .ok (.value ((((Bx m k).map val).getD z))) w:=by
  have:=Q67 hK ht hz w b m k hm false
  simp[execOp,hx,hi,this,go_sem]
def Nl:TypeDesc→Bool
  |.struct _ | .array _ _=>false
  |_=>true
theorem Q68 {t:TypeId} {d:TypeDesc} (h:P.underlying t=some d) (hd:Nl d=true) (w:World):(isAgg t).run P w = .ok false w:=by
  cases d<;>simp_all [isAgg,run_underlying h,Nl]
theorem U9 {w:World} {b o:Nat} {c:Array Value} {e:TypeId} {f:Nat × Nat} {v:Value} (hb:w.heap[b]? = some (.cells c e f)) (hc:c[o]? = some v):w.cell? ⟨b,o,none⟩=some v:=by
  simp[World.cell?,hb,hc]
theorem Q5e {t : TypeId} {d : TypeDesc} {x : Operand} {a : Addr} {v : Value} (hx : ev n σ x = .pointer (some a)) (ht : P.underlying t = some d) (hd : Nl d = true) (hc : w.cell? a = some v)
     :
    (execOp (ev n σ) ⟨dst,.load t x,ty,ps,af,g⟩).run P w = .ok (.value (v)) w:=by
  simp[execOp,Instr.loadAt,Instr.sureAddr,hx,loadVar,Q68 ht hd,load,Sem.run,hc,go_sem]
def Ly:Value→Bool
  |.agg _ | .tuple _=>false
  |_=>true
theorem Q4v {t : TypeId} {d : TypeDesc} {x : Operand} {a : Addr} {v : Value} (hg : gOk ops n σ g = true) (hx : ev n σ x = .pointer (some a)) (ht : P.underlying t = some d) (hd : Nl d = true) (hc : w.cell? a = some v)
    (next:WO P n ops rest Q (Ci σ dst (v)) w):WO P n ops (⟨dst,.load t x,ty,ps,af,g⟩::rest) Q σ w :=
  Db hg (Q5e hx ht hd hc) next
theorem Q4t {t : TypeId} {x y : Operand} {b o : Nat} {c : Array Value} {e : TypeId} {v : Value} (hg : gOk ops n σ g = true) (hx : ev n σ x = .pointer (some ⟨b, o, none⟩)) (hy : ev n σ y = v)
    (hs:∀w,(sizeOf t).run P w = .ok 1 w) (h1:Ly v=true) (hb:w.heap[b]? = some (.cells c e (0,0))) (ho:o < c.size)
    (next:∀w',Upd w w' b (.cells (c.setIfInBounds o v) e (0,0))→WO P n ops rest Q (Ci σ dst undef) w'):WO P n ops (⟨dst,.store t x y,ty,ps,af,g⟩::rest) Q σ w:=by
  have hcell:w.cell? ⟨b,o,none⟩=some c[o]:=U9 hb (by simp[ho])
  have hfr:w.frozen? ⟨b,o,none⟩=false:=by simp[World.frozen?,hb]
  have hcs:v.cells = #[v]:=by cases v<;>first|rfl|simp[Ly] at h1
  refine Lb (w':=w.setCell ⟨b,o,none⟩ v) hg ?_ (next _ ⟨rfl,rfl,rfl,by simp[World.setCell],?_,?_⟩)
  · cases v<;>first|(simp[Ly] at h1;done)|simp[execOp,Instr.storeAt,Instr.sureAddr,hx,hy,storeVar,hs,Value.cells,storeCells,store,Sem.run,hcell,hfr,Addr.add,go_sem]
  · have hlt:=L9 hb
    have:=(Array.getElem?_eq_some_iff.1 hb).2
    simp[World.setCell,Array.getElem?_modify,hb]
  · intro j hj
    simp[World.setCell,Array.getElem?_modify,Ne.symm hj]
end
end
section
open Go Go.RowKit
section
variable {P : Program} {n : Nat} {Q : Exit → (Nat → Value) → World → Prop} {σ : Nat → Value} {w : World}
variable {ops : Array Oper} {rest : List Oper} {dst : Option Tmp} {ty : TypeId} {ps : String} {af : Array Edge} {g : Option (Nat × Bool)}
end
end
section
open Go Go.RowKit
def RowIs (w:World) (v:Value) (n sz:Nat) (xs:List Value):Prop :=
  xs.length=n*sz∧((n=0∧∃a c,v = .slice a 0 c)∨∃b o c,v = .slice (some ⟨b,o,none⟩) n c∧∀j u,xs[j]? = some u→w.cell? ⟨b,o+j,none⟩=some u)
theorem X5k {w:World} {a:Addr} {v:Value} (h:w.cell? a=some v):a.block < w.heap.size:=World.block_lt_of_cell? w a h
theorem RowIs.ext {w w':World} {v:Value} {n sz:Nat} {xs:List Value} (h:RowIs w v n sz xs) (hb:Below w.heap.size w w'):RowIs w' v n sz xs:=by
  obtain⟨h1,h2⟩:=h
  refine⟨h1,?_⟩
  rcases h2 with h2|⟨b,o,c,hv,hc⟩
  · exact .inl h2
  · exact .inr ⟨b,o,c,hv,fun j u hu=>by rw[hb.cell (p:=⟨b,o+j,none⟩) (X5k (hc j u hu))];exact hc j u hu⟩
theorem RowIs.drew {w w':World} {v:Value} {n sz:Nat} {xs:List Value} (h:RowIs w v n sz xs) (hd:Drew w w'):RowIs w' v n sz xs:=by
  obtain⟨k,rfl⟩:=hd
  obtain⟨h1,h2⟩:=h
  refine⟨h1,?_⟩
  rcases h2 with h2|⟨b,o,c,hv,hc⟩
  · exact .inl h2
  · exact .inr ⟨b,o,c,hv,fun j u hu=>hc j u hu⟩
section
variable {P : Program} {n : Nat} {Q : Exit → (Nat → Value) → World → Prop} {σ : Nat → Value} {w : World}
variable {ops : Array Oper} {rest : List Oper} {dst : Option Tmp} {ty : TypeId} {ps : String} {af : Array Edge} {g : Option (Nat × Bool)}
end
section
variable {w w' w0 : World} {base base' sz sz' m m' : Nat} {e e' : TypeId} {v v' : Value} {xs xs' : List Value}
end
def nth {α:Type} [Inhabited α] (l:List α) (i:Nat):α:=(l[i]?).getD default
theorem S7 {α:Type} [Inhabited α] {l:List α} {i:Nat} (h:i < l.length):l[i]? = some (nth l i):=by unfold nth;rw[List.getElem?_eq_getElem h];rfl
section
variable {P : Program} {n : Nat} {Q : Exit → (Nat → Value) → World → Prop} {σ : Nat → Value} {w : World}
variable {ops : Array Oper} {rest : List Oper} {dst : Option Tmp} {ty : TypeId} {ps : String} {af : Array Edge} {g : Option (Nat × Bool)}
end
end
end Go.Proofs.YtlmloohlmlahfaaGreatDoor
section
namespace Go.Proofs
open Go.Shelf
def Tryz.lays161_ren:Go.Shelf.Ren:=⟨fun|161=>145|231=>186|227=>187|233=>188|235=>189|228=>223|197=>224|151=>225|260=>243|152=>244|137=>162|119=>255|224=>246|225=>245|217=>195|266=>228|n=>n,fun|9=>9|4=>4|3=>3|5=>5|117=>214|116=>213|0=>0|124=>217|105=>239|21=>21|119=>255|46=>200|139=>258|138=>257|n=>n,fun|3=>4|4=>5|n=>n⟩
theorem Tryz.lays161:Go.Proofs.Lays.n161 Tryz.prog Tryz.lays161_ren:={
  mixed:=by kernel_rfl
  f119:=Tryz.func255.trans (congrArg some (by kernel_rfl))
  f137:=Tryz.func162.trans (congrArg some (by kernel_rfl))
  f151:=Tryz.func225.trans (congrArg some (by kernel_rfl))
  f152:=Tryz.func244.trans (congrArg some (by kernel_rfl))
  f161:=Tryz.func145.trans (congrArg some (by kernel_rfl))
  f197:=Tryz.func224.trans (congrArg some (by kernel_rfl))
  f217:=Tryz.func195.trans (congrArg some (by kernel_rfl))
  f224:=Tryz.func246.trans (congrArg some (by kernel_rfl))
  f225:=Tryz.func245.trans (congrArg some (by kernel_rfl))
  f227:=Tryz.func187.trans (congrArg some (by kernel_rfl))
  f228:=Tryz.func223.trans (congrArg some (by kernel_rfl))
  f231:=Tryz.func186.trans (congrArg some (by kernel_rfl))
  f233:=Tryz.func188.trans (congrArg some (by kernel_rfl))
  f235:=Tryz.func189.trans (congrArg some (by kernel_rfl))
  f260:=Tryz.func243.trans (congrArg some (by kernel_rfl))
  f266:=Tryz.func228.trans (congrArg some (by kernel_rfl))
  t0:=Tryz.underlying0
  a0:=Tryz.isAgg0
  z0:=Tryz.sizeOf0
  v0:=Tryz.zeroValue0
  t3:=Tryz.underlying3
  a3:=Tryz.isAgg3
  z3:=Tryz.sizeOf3
  v3:=Tryz.zeroValue3
  t4:=Tryz.underlying4
  a4:=Tryz.isAgg4
  z4:=Tryz.sizeOf4
  v4:=Tryz.zeroValue4
  t5:=Tryz.underlying5
  a5:=Tryz.isAgg5
  z5:=Tryz.sizeOf5
  v5:=Tryz.zeroValue5
  t9:=Tryz.underlying9
  a9:=Tryz.isAgg9
  z9:=Tryz.sizeOf9
  v9:=Tryz.zeroValue9
  t21:=Tryz.underlying21
  a21:=Tryz.isAgg21
  z21:=Tryz.sizeOf21
  v21:=Tryz.zeroValue21
  t46:=Tryz.underlying200
  a46:=Tryz.isAgg200
  z46:=Tryz.sizeOf200
  v46:=Tryz.zeroValue200
  t105:=Tryz.underlying239
  a105:=Tryz.isAgg239
  z105:=Tryz.sizeOf239
  v105:=Tryz.zeroValue239
  t116:=Tryz.underlying213
  a116:=Tryz.isAgg213
  z116:=Tryz.sizeOf213
  t117:=Tryz.underlying214
  a117:=Tryz.isAgg214
  z117:=Tryz.sizeOf214
  v117:=Tryz.zeroValue214
  t119:=Tryz.underlying255
  a119:=Tryz.isAgg255
  z119:=Tryz.sizeOf255
  t124:=Tryz.underlying217
  a124:=Tryz.isAgg217
  z124:=Tryz.sizeOf217
  v124:=Tryz.zeroValue217
  t138:=Tryz.underlying257
  a138:=Tryz.isAgg257
  z138:=Tryz.sizeOf257
  v138:=Tryz.zeroValue257
  t139:=Tryz.underlying258
  a139:=Tryz.isAgg258
  z139:=Tryz.sizeOf258
  v139:=Tryz.zeroValue258
  g3:=by kernel_rfl
  g4:=by kernel_rfl }
open Go.RowKit in
theorem Tryz.strings_TrimLeft_one (s : ByteArray) (c : UInt8) (hc : c.toNat < 128) (w : World) :
    Calls Tryz.prog 145 #[.string s,.string ⟨#[c]⟩] w fun e w'=>e = .returned (.string ⟨(Lib.trimLeftB s.data.toList c).toArray⟩)∧w'=w:=Any.strings_TrimLeft_one Tryz.lays161 s c hc w
def Tryz.lays106_ren:Go.Shelf.Ren:=⟨fun|106=>214|213=>240|265=>254|n=>n,fun|9=>9|3=>3|n=>n,fun|n=>n⟩
theorem Tryz.lays106:Go.Proofs.Lays.n106 Tryz.prog Tryz.lays106_ren:={
  mixed:=by kernel_rfl
  f106:=Tryz.func214.trans (congrArg some (by kernel_rfl))
  f213:=Tryz.func240.trans (congrArg some (by kernel_rfl))
  f265:=Tryz.func254.trans (congrArg some (by kernel_rfl))
  t3:=Tryz.underlying3
  a3:=Tryz.isAgg3
  z3:=Tryz.sizeOf3
  v3:=Tryz.zeroValue3
  t9:=Tryz.underlying9
  a9:=Tryz.isAgg9
  z9:=Tryz.sizeOf9
  v9:=Tryz.zeroValue9 }
open Go.RowKit in
theorem Tryz.strings_Compare (a b : ByteArray) (w : World) :
    Calls Tryz.prog 214 #[.string a,.string b] w fun e w'=>e = .returned (.int .i64 (Lib.compareBytes a.data.toList b.data.toList))∧w'=w:=Any.strings_Compare Tryz.lays106 a b w
def Tryz.lays137_ren:Go.Shelf.Ren:=⟨fun|137=>162|217=>195|266=>228|n=>n,fun|9=>9|5=>5|3=>3|n=>n,fun|n=>n⟩
theorem Tryz.lays137:Go.Proofs.Lays.n137 Tryz.prog Tryz.lays137_ren:={
  mixed:=by kernel_rfl
  f137:=Tryz.func162.trans (congrArg some (by kernel_rfl))
  f217:=Tryz.func195.trans (congrArg some (by kernel_rfl))
  f266:=Tryz.func228.trans (congrArg some (by kernel_rfl))
  t3:=Tryz.underlying3
  a3:=Tryz.isAgg3
  z3:=Tryz.sizeOf3
  v3:=Tryz.zeroValue3
  t5:=Tryz.underlying5
  a5:=Tryz.isAgg5
  z5:=Tryz.sizeOf5
  v5:=Tryz.zeroValue5
  t9:=Tryz.underlying9
  a9:=Tryz.isAgg9
  z9:=Tryz.sizeOf9
  v9:=Tryz.zeroValue9 }
open Go.RowKit in
theorem Tryz.strings_IndexByte (s : ByteArray) (c : Int) (w : World) :
    Calls Tryz.prog 162 #[.string s,.int .u8 c] w fun e w'=>e = .returned (.int .i64 (Lib.indexByte s.data.toList c.toNat.toUInt8))∧w'=w:=Any.strings_IndexByte Tryz.lays137 s c w
def Tryz.lays219_ren:Go.Shelf.Ren:=⟨fun|219=>229|217=>195|225=>245|224=>246|267=>247|266=>228|314=>256|n=>n,fun|9=>9|3=>3|4=>4|5=>5|46=>200|146=>259|51=>232|n=>n,fun|1=>1|n=>n⟩
theorem Tryz.lays219:Go.Proofs.Lays.n219 Tryz.prog Tryz.lays219_ren:={
  mixed:=by kernel_rfl
  f217:=Tryz.func195.trans (congrArg some (by kernel_rfl))
  f219:=Tryz.func229.trans (congrArg some (by kernel_rfl))
  f224:=Tryz.func246.trans (congrArg some (by kernel_rfl))
  f225:=Tryz.func245.trans (congrArg some (by kernel_rfl))
  f266:=Tryz.func228.trans (congrArg some (by kernel_rfl))
  f267:=Tryz.func247.trans (congrArg some (by kernel_rfl))
  f314:=Tryz.func256.trans (congrArg some (by kernel_rfl))
  t3:=Tryz.underlying3
  a3:=Tryz.isAgg3
  z3:=Tryz.sizeOf3
  v3:=Tryz.zeroValue3
  t4:=Tryz.underlying4
  a4:=Tryz.isAgg4
  z4:=Tryz.sizeOf4
  v4:=Tryz.zeroValue4
  t5:=Tryz.underlying5
  a5:=Tryz.isAgg5
  z5:=Tryz.sizeOf5
  v5:=Tryz.zeroValue5
  t9:=Tryz.underlying9
  a9:=Tryz.isAgg9
  z9:=Tryz.sizeOf9
  v9:=Tryz.zeroValue9
  t46:=Tryz.underlying200
  a46:=Tryz.isAgg200
  z46:=Tryz.sizeOf200
  v46:=Tryz.zeroValue200
  t51:=Tryz.underlying232
  a51:=Tryz.isAgg232
  z51:=Tryz.sizeOf232
  v51:=Tryz.zeroValue232
  t146:=Tryz.underlying259
  a146:=Tryz.isAgg259
  z146:=Tryz.sizeOf259
  v146:=Tryz.zeroValue259
  g1:=by kernel_rfl }
open Go.RowKit Go.Lib in
theorem Tryz.stringslite_Index_one (s : ByteArray) (c : UInt8) (w : World) :
    Calls Tryz.prog 229 #[.string s,.string ⟨#[c]⟩] w fun e w'=>e = .returned (.int .i64 (Lib.indexByte s.data.toList c))∧w'=w:=Any.stringslite_Index_one Tryz.lays219 s c w
def Tryz.lays144_ren:Go.Shelf.Ren:=⟨fun|144=>166|143=>198|219=>229|217=>195|225=>245|224=>246|267=>247|266=>228|314=>256|n=>n,fun|9=>9|4=>4|3=>3|5=>5|46=>200|146=>259|51=>232|n=>n,fun|1=>1|n=>n⟩
theorem Tryz.lays144:Go.Proofs.Lays.n144 Tryz.prog Tryz.lays144_ren:={
  mixed:=by kernel_rfl
  f143:=Tryz.func198.trans (congrArg some (by kernel_rfl))
  f144:=Tryz.func166.trans (congrArg some (by kernel_rfl))
  f217:=Tryz.func195.trans (congrArg some (by kernel_rfl))
  f219:=Tryz.func229.trans (congrArg some (by kernel_rfl))
  f224:=Tryz.func246.trans (congrArg some (by kernel_rfl))
  f225:=Tryz.func245.trans (congrArg some (by kernel_rfl))
  f266:=Tryz.func228.trans (congrArg some (by kernel_rfl))
  f267:=Tryz.func247.trans (congrArg some (by kernel_rfl))
  f314:=Tryz.func256.trans (congrArg some (by kernel_rfl))
  t3:=Tryz.underlying3
  a3:=Tryz.isAgg3
  z3:=Tryz.sizeOf3
  v3:=Tryz.zeroValue3
  t4:=Tryz.underlying4
  a4:=Tryz.isAgg4
  z4:=Tryz.sizeOf4
  v4:=Tryz.zeroValue4
  t5:=Tryz.underlying5
  a5:=Tryz.isAgg5
  z5:=Tryz.sizeOf5
  v5:=Tryz.zeroValue5
  t9:=Tryz.underlying9
  a9:=Tryz.isAgg9
  z9:=Tryz.sizeOf9
  v9:=Tryz.zeroValue9
  t46:=Tryz.underlying200
  a46:=Tryz.isAgg200
  z46:=Tryz.sizeOf200
  v46:=Tryz.zeroValue200
  t51:=Tryz.underlying232
  a51:=Tryz.isAgg232
  z51:=Tryz.sizeOf232
  v51:=Tryz.zeroValue232
  t146:=Tryz.underlying259
  a146:=Tryz.isAgg259
  z146:=Tryz.sizeOf259
  v146:=Tryz.zeroValue259
  g1:=by kernel_rfl }
open Go.RowKit Go.Lib in
theorem Tryz.strings_Contains_one (s : ByteArray) (c : UInt8) (w : World) :
    Calls Tryz.prog 166 #[.string s,.string ⟨#[c]⟩] w fun e w'=>e = .returned (.bool (decide (0≤Lib.indexByte s.data.toList c)))∧w'=w:=Any.strings_Contains_one Tryz.lays144 s c w
def Tryz.lays189_ren:Go.Shelf.Ren:=⟨fun|189=>130|125=>173|257=>172|128=>211|129=>212|294=>202|295=>203|296=>204|297=>205|298=>206|299=>207|216=>208|300=>209|301=>210|328=>234|329=>235|330=>236|331=>237|332=>238|215=>239|343=>253|n=>n,fun|28=>26|3=>3|46=>200|0=>0|51=>232|53=>205|4=>4|183=>225|182=>224|131=>229|5=>5|9=>9|218=>242|222=>246|228=>251|229=>179|n=>n,fun|n=>n⟩
theorem Tryz.lays189:Go.Proofs.Lays.n189 Tryz.prog Tryz.lays189_ren:={
  mixed:=by kernel_rfl
  f125:=Tryz.func173.trans (congrArg some (by kernel_rfl))
  f128:=Tryz.func211.trans (congrArg some (by kernel_rfl))
  f129:=Tryz.func212.trans (congrArg some (by kernel_rfl))
  f189:=Tryz.func130.trans (congrArg some (by kernel_rfl))
  f215:=Tryz.func239.trans (congrArg some (by kernel_rfl))
  f216:=Tryz.func208.trans (congrArg some (by kernel_rfl))
  f257:=Tryz.func172.trans (congrArg some (by kernel_rfl))
  f294:=Tryz.func202.trans (congrArg some (by kernel_rfl))
  f295:=Tryz.func203.trans (congrArg some (by kernel_rfl))
  f296:=Tryz.func204.trans (congrArg some (by kernel_rfl))
  f297:=Tryz.func205.trans (congrArg some (by kernel_rfl))
  f298:=Tryz.func206.trans (congrArg some (by kernel_rfl))
  f299:=Tryz.func207.trans (congrArg some (by kernel_rfl))
  f300:=Tryz.func209.trans (congrArg some (by kernel_rfl))
  f301:=Tryz.func210.trans (congrArg some (by kernel_rfl))
  f328:=Tryz.func234.trans (congrArg some (by kernel_rfl))
  f329:=Tryz.func235.trans (congrArg some (by kernel_rfl))
  f330:=Tryz.func236.trans (congrArg some (by kernel_rfl))
  f331:=Tryz.func237.trans (congrArg some (by kernel_rfl))
  f332:=Tryz.func238.trans (congrArg some (by kernel_rfl))
  f343:=Tryz.func253.trans (congrArg some (by kernel_rfl))
  t0:=Tryz.underlying0
  a0:=Tryz.isAgg0
  z0:=Tryz.sizeOf0
  v0:=Tryz.zeroValue0
  t3:=Tryz.underlying3
  a3:=Tryz.isAgg3
  z3:=Tryz.sizeOf3
  v3:=Tryz.zeroValue3
  t4:=Tryz.underlying4
  a4:=Tryz.isAgg4
  z4:=Tryz.sizeOf4
  v4:=Tryz.zeroValue4
  t5:=Tryz.underlying5
  a5:=Tryz.isAgg5
  z5:=Tryz.sizeOf5
  v5:=Tryz.zeroValue5
  t9:=Tryz.underlying9
  a9:=Tryz.isAgg9
  z9:=Tryz.sizeOf9
  v9:=Tryz.zeroValue9
  t28:=Tryz.underlying26
  a28:=Tryz.isAgg26
  z28:=Tryz.sizeOf26
  v28:=Tryz.zeroValue26
  t46:=Tryz.underlying200
  a46:=Tryz.isAgg200
  z46:=Tryz.sizeOf200
  v46:=Tryz.zeroValue200
  t51:=Tryz.underlying232
  a51:=Tryz.isAgg232
  z51:=Tryz.sizeOf232
  v51:=Tryz.zeroValue232
  t53:=Tryz.underlying205
  a53:=Tryz.isAgg205
  z53:=Tryz.sizeOf205
  v53:=Tryz.zeroValue205
  t131:=Tryz.underlying229
  a131:=Tryz.isAgg229
  z131:=Tryz.sizeOf229
  v131:=Tryz.zeroValue229
  t182:=Tryz.underlying224
  a182:=Tryz.isAgg224
  z182:=Tryz.sizeOf224
  v182:=Tryz.zeroValue224
  t183:=Tryz.underlying225
  a183:=Tryz.isAgg225
  z183:=Tryz.sizeOf225
  v183:=Tryz.zeroValue225
  t218:=Tryz.underlying242
  a218:=Tryz.isAgg242
  z218:=Tryz.sizeOf242
  v218:=Tryz.zeroValue242
  t222:=Tryz.underlying246
  a222:=Tryz.isAgg246
  z222:=Tryz.sizeOf246
  v222:=Tryz.zeroValue246
  t228:=Tryz.underlying251
  a228:=Tryz.isAgg251
  z228:=Tryz.sizeOf251
  v228:=Tryz.zeroValue251
  t229:=Tryz.underlying179
  a229:=Tryz.isAgg179
  z229:=Tryz.sizeOf179
  v229:=Tryz.zeroValue179 }
open Go.Sort Go.RowKit in
theorem Tryz.slices_Sort_int (blk off cap : Nat) (zs : List Int) (w : World) (hH : Holds (Value.int .i64) w blk off zs.toArray) (hblk : blk < w.heap.size) (hsz : zs.length < 4611686018427387904) :
    Calls Tryz.prog 130 #[.slice (some ⟨blk,off,none⟩) zs.length cap] w fun e w' =>
      e = .returned (.tuple #[])∧∃n os,w'=grow (putRow (Value.int .i64) (Sort.ahead w n) blk off (zs.mergeSort fun x y=>decide (x≤y)).toArray) os:=Any.slices_Sort_int Tryz.lays189 blk off cap zs w hH hblk hsz
def Tryz.laysGw15_ren:Go.Shelf.Ren:=⟨fun|15=>105|20=>158|n=>n,fun|9=>9|23=>146|3=>3|4=>4|0=>0|21=>21|n=>n,fun|n=>n⟩
theorem Tryz.laysGw15:Go.Proofs.LaysGw.n15 Tryz.prog Tryz.laysGw15_ren:={
  mixed:=by kernel_rfl
  f15:=Tryz.func105.trans (congrArg some (by kernel_rfl))
  f20:=Tryz.func158.trans (congrArg some (by kernel_rfl))
  t0:=Tryz.underlying0
  a0:=Tryz.isAgg0
  z0:=Tryz.sizeOf0
  v0:=Tryz.zeroValue0
  i0:=by kernel_rfl
  t3:=Tryz.underlying3
  a3:=Tryz.isAgg3
  z3:=Tryz.sizeOf3
  v3:=Tryz.zeroValue3
  i3:=by kernel_rfl
  t4:=Tryz.underlying4
  a4:=Tryz.isAgg4
  z4:=Tryz.sizeOf4
  v4:=Tryz.zeroValue4
  i4:=by kernel_rfl
  t9:=Tryz.underlying9
  a9:=Tryz.isAgg9
  z9:=Tryz.sizeOf9
  v9:=Tryz.zeroValue9
  i9:=by kernel_rfl
  t21:=Tryz.underlying21
  a21:=Tryz.isAgg21
  z21:=Tryz.sizeOf21
  v21:=Tryz.zeroValue21
  i21:=by kernel_rfl
  t23:=Tryz.underlying146
  a23:=Tryz.isAgg146
  z23:=Tryz.sizeOf146
  v23:=Tryz.zeroValue146
  i23:=by kernel_rfl }
open Go.RowKit Go.Lib in
theorem Tryz.strings_IndexFunc_grows (g : Nat) (lb : Array Value) (eg : ∀ args w, (callFunc g args).run Tryz.prog w = .ok (.enter g args) w) (p : Nat → Bool) (s : ByteArray) (w : World) (hp : PredGrows Tryz.prog g lb p w) :
    Calls Tryz.prog 105 #[.string s,.func (.func g) #[] lb] w fun e w'=>e = .returned (.int .i64 (Lib.idxFunc p true s))∧Below w.heap.size w w':=Any.strings_IndexFunc_grows Tryz.laysGw15 g lb eg p s w hp
def Tryz.laysNm220_ren:Go.Shelf.Ren:=⟨fun|20=>123|n=>n,fun|22=>26|3=>3|4=>4|0=>0|n=>n,fun|n=>n⟩
theorem Tryz.laysNm220:Go.Proofs.Lays2.n20 Tryz.prog Tryz.laysNm220_ren:={
  mixed:=by kernel_rfl
  f20:=Tryz.func123.trans (congrArg some (by kernel_rfl))
  t0:=Tryz.underlying0
  a0:=Tryz.isAgg0
  z0:=Tryz.sizeOf0
  v0:=Tryz.zeroValue0
  t3:=Tryz.underlying3
  a3:=Tryz.isAgg3
  z3:=Tryz.sizeOf3
  v3:=Tryz.zeroValue3
  t4:=Tryz.underlying4
  a4:=Tryz.isAgg4
  z4:=Tryz.sizeOf4
  v4:=Tryz.zeroValue4
  t22:=Tryz.underlying26
  a22:=Tryz.isAgg26
  z22:=Tryz.sizeOf26
  v22:=Tryz.zeroValue26
  i3:=by kernel_rfl }
open Go.RowKit Go.Lib Go.Sort in
theorem Tryz.slices_Compact_int (blk off cap : Nat) (zs : List Int) (w : World) (hH : Holds (Value.int .i64) w blk off zs.toArray) (hsz : zs.length ≤ 9223372036854775807) (hcap : zs.length ≤ cap) :
    Calls Tryz.prog 123 #[.slice (some ⟨blk,off,none⟩) zs.length cap] w fun e w'=>e = .returned (.slice (some ⟨blk,off,none⟩) (Lib.compact zs).length cap)∧∃q,w'=putRow (Value.int .i64) (Sort.ahead w q) blk off (Lib.compact zs++List.replicate (zs.length-(Lib.compact zs).length) 0).toArray:=Any.slices_Compact_int Tryz.laysNm220 blk off cap zs w hH hsz hcap
open Go.RowKit Go.Lib Go.Sort in
theorem Tryz.slices_Compact_int_empty (a : Option Addr) (cap : Nat) (w : World) :
    Calls Tryz.prog 123 #[.slice a 0 cap] w fun e w'=>e = .returned (.slice a 0 cap)∧w'=w:=Any.slices_Compact_int_empty Tryz.laysNm220 a cap w
open Go.RowKit Go.Sort in
theorem Tryz.slices_Sort_int_none (p : Option Addr) (cap : Nat) (w : World) :
    Calls Tryz.prog 130 #[.slice p 0 cap] w fun e w'=>e = .returned (.tuple #[])∧w'=w:=Any.slices_Sort_int_none Tryz.lays189 p cap w
end Go.Proofs
end
namespace Go.Proofs.YtlmloohlmlahfaaGreatDoor
section
open Go Go.RowKit
theorem Mm {α:Type} [Inhabited α] {l:List α} {i:Nat} (h:i < l.length):l.drop i=nth l i::l.drop (i+1):=by
  rw[List.drop_eq_getElem_cons h];congr 1;unfold nth;rw[List.getElem?_eq_getElem h];rfl
theorem Py {α β:Type} [Inhabited α] [Inhabited β] (g:α→β) (l:List α) (i:Nat) (h:i < l.length):nth (l.map g) i=g (nth l i):=by
  unfold nth;rw[List.getElem?_map,List.getElem?_eq_getElem h];rfl
theorem Q4c {l:List UInt8} {p:UInt8→Bool} {k:Nat} (h:k < l.length) (ha:(l.take k).all p=true) (hc:p (As l k)=true):(l.take (k+1)).all p=true:=by
  rw[List.take_succ_eq_append_getElem h]
  rw[Jx h] at hc
  simp only[List.all_append,ha,List.all_cons,List.all_nil,Bool.true_and,Bool.and_true]
  exact hc
theorem Ju {l:List UInt8} {k:Nat} (h:k < l.length):l.drop k=As l k::l.drop (k+1):=by rw[List.drop_eq_getElem_cons h,Jx h]
theorem Q4f {l:List UInt8} {p:UInt8→Bool} {k:Nat} (h:k < l.length) (hc:p (As l k)=false):l.all p=false:=by
  rw[List.all_eq_false]
  rw[Jx h] at hc
  exact⟨l[k],List.getElem_mem _,by simpa using hc⟩
theorem Qg {α:Type} {sz:Nat}:∀(css:List (List α)) (i j:Nat),(∀c∈css,c.length=sz)→i < css.length→j < sz→css.flatten[i*sz+j]? = (nth css i)[j]?
  |[],_,_,_,hi,_=>by simp at hi
  |c::r,0,j,h,_,hj=>by
    have hc:=h c (by simp)
    rw[Nat.zero_mul,Nat.zero_add,List.flatten_cons,List.getElem?_append_left (by omega)];rfl
  |c::r,i+1,j,h,hi,hj=>by
    have hc:=h c (by simp)
    rw[List.flatten_cons,List.getElem?_append_right (by rw[Nat.succ_mul];omega),show(i+1)*sz+j-c.length=i*sz+j by rw[Nat.succ_mul];omega,Qg r i j (fun x hx=>h x (by simp[hx])) (by simpa using hi) hj];rfl
theorem Jo {α:Type} [Inhabited α] {l:List α} {i:Nat} (h:i < l.length):nth l i∈l:=List.mem_of_getElem? (S7 h)
section
variable {P : Program} {n : Nat} {Q : Exit → (Nat → Value) → World → Prop} {σ : Nat → Value} {w : World}
variable {ops : Array Oper} {rest : List Oper} {dst : Option Tmp} {ty : TypeId} {ps : String} {af : Array Edge} {g : Option (Nat × Bool)}
end
section
variable {P : Program} {n : Nat} {σ : Nat → Value} {w : World}
end
def WX (P:Program) (n:Nat) (ops:Array Oper) (Q:(Nat→Value)→World→Prop) (fuel:Nat) (listed:Array Bool) (σ:Nat→Value) (w:World):Prop :=
  wpAny P .any ops (fun e a w=>e = .normal∧∃σ,a=mk n σ∧Q σ w) fuel listed (mk n σ) w
section
variable {P : Program} {n : Nat} {σ : Nat → Value} {w : World}
variable {ops : Array Oper} {Q : (Nat → Value) → World → Prop} {fuel : Nat} {listed : Array Bool}
theorem Rn {o:Oper} {a:Act} {w:World} {K K':Act→World→Prop} {R R':Exit→Act→World→Prop} (h:∀a w,K a w→K' a w) (hp:∀c a w,¬R (.panic c) a w) (ho:¬LetsOut R) (hh:o.wp P a w K R):o.wp P a w K' R':=by
  unfold Oper.wp at *
  generalize (execOp a.eval o).run P w=r at *
  cases r with
  |ok n w' =>
    cases n<;>simp only[Oper.upon] at hh ⊢ <;>
      first
        |exact h _ _ hh
        |exact Calls.mono hh (fun e w'' he=>by cases e<;>first|exact h _ _ he|exact absurd he (hp _ _ _)|exact absurd he ho)
        |exact Rows.mono hh (fun _ _ he=>h _ _ he)
  |halt x w'=>cases x<;>simp only[Oper.upon] at hh ⊢ <;> exact absurd hh (hp _ _ _)
end
attribute [irreducible] WX
end
section
open Go Go.RowKit
theorem X37:Au Tryz.prog 147:=Ay Tryz.func147 (by kernel_rfl) rfl
theorem Q1p:Au Tryz.prog 98:=Ay Tryz.func98 (by kernel_rfl) rfl
theorem X2u:Au Tryz.prog 99:=Ay Tryz.func99 (by kernel_rfl) rfl
theorem X4w:Au Tryz.prog 100:=Ay Tryz.func100 (by kernel_rfl) rfl
theorem N8:Au Tryz.prog 45:=Ay Tryz.func45 (by kernel_rfl) rfl
theorem X35:Au Tryz.prog 151:=Ay Tryz.func151 (by kernel_rfl) rfl
theorem X34:Au Tryz.prog 152:=Ay Tryz.func152 (by kernel_rfl) rfl
theorem N6:Au Tryz.prog 96:=Ay Tryz.func96 (by kernel_rfl) rfl
def signsL:List (List UInt8):=[[],[60],[61],[60,61],[62],[60,62],[62,61],[60,61,62]]
def Lh:List (List UInt8):=[[],[],[97,110,100],[111,114],[105,102],[119,105,116,104],[119,105,116,104,111,117,116]]
def E0:List (List UInt8)→List UInt8→Nat→Int
 |[],_,_ => -1
 |a::r,s,k=>if s=a then k else E0 r s (k+1)
theorem V6 {l:List (List UInt8)} {i:Nat} (s:List UInt8) (h:i < l.length):E0 (l.drop i) s i=if s=nth l i then (i:Int) else E0 (l.drop (i+1)) s (i+1):=by rw[Mm h,E0]
def Gi:List UInt8→Int→Bool
 |[],n=>decide (n=0)
 |c::r,n=>if c.toNat < 33∨126 < c.toNat then false else
  (fun n':Int=>if n' < 0 then false else Gi r n') (if c.toNat=40 then n+1 else if c.toNat=41 then n-1 else n)
def Gl (l:List UInt8):Bool:=decide (l=[])||(decide (60 < l.length)||(decide ((As l 0).toNat=40)||(decide ((As l 0).toNat=41)||(decide (l=[101,108,115,101])||(decide (0≤E0 signsL l 0)||decide (0≤E0 Lh l 0))))))
theorem Q01 {l:List UInt8} (h:Gl l=false):l.length≤60:=by simp[Gl] at h;omega
def Bq (l:List UInt8):Bool:=!Gl l&&Gi l 0
end
section
open Go Go.RowKit
def Li (s:List UInt8):Bool:=decide (s=[97,110,100])||decide (s=[111,114])||decide (s=[105,102])||decide (s=[101,108,115,101])||decide (s=[119,105,116,104])||decide (s=[119,105,116,104,111,117,116])
def Fv (s:List UInt8):Int:=if s=[60] then 1 else if s=[61] then 2 else if s=[60,61] then 3 else if s=[62] then 4 else if s=[60,62] then 5 else if s=[62,61] then 6 else if s=[60,61,62] then 7 else 0
theorem V7:∀(ls:List (List UInt8)) (s:List UInt8) (k:Nat),0≤E0 ls s k↔s∈ls
 |[],s,k=>by simp[E0]
 |a::r,s,k=>by
  rw[E0,List.mem_cons,←V7 r s (k+1)]
  by_cases h:s=a
  ·rw[if_pos h];simp[h]
  ·rw[if_neg h];simp[h]
theorem Q6t (s:List UInt8):Fv s≠0↔s∈signsL.tail:=by
 unfold Fv signsL
 (repeat' split)<;>simp_all
def Pg (l:List UInt8):Bool:=decide (l.length < 1)||(decide (60 < l.length)||(decide ((As l 0).toNat=40)||(decide ((As l 0).toNat=41)||(Li l||decide (Fv l≠0)))))
theorem Xg (l:List UInt8):Pg l=Gl l:=by
 rw[Bool.eq_iff_iff]
 unfold Pg Gl Li
 have h0:l.length < 1↔l=[]:=by rw[←List.length_eq_zero_iff];omega
 simp only[Bool.or_eq_true,decide_eq_true_eq,V7,Q6t,h0,signsL,Lh,List.tail_cons,List.mem_cons,List.not_mem_nil,or_false]
 grind
theorem Pq {l : List UInt8} {k : Nat} {n : Int} (h : k < l.length) (hb : ¬ ((As l k).toNat < 33 ∨ 126 < (As l k).toNat)) :
  Gi (l.drop k) n=(fun n':Int=>if n' < 0 then false else Gi (l.drop (k+1)) n') (if (As l k).toNat=40 then n+1 else if (As l k).toNat=41 then n-1 else n):=by
 rw[Ju h,Gi,if_neg hb]
end
section
open Go Go.RowKit
theorem Ib:Au Tryz.prog 160:=Ay Tryz.func160 (by kernel_rfl) rfl
theorem Mk:Au Tryz.prog 161:=Ay Tryz.func161 (by kernel_rfl) rfl
theorem X3z:Au Tryz.prog 159:=Ay Tryz.func159 (by kernel_rfl) rfl
theorem Hn:Au Tryz.prog 163:=Ay Tryz.func163 (by kernel_rfl) rfl
theorem X3l:Au Tryz.prog 197:=Ay Tryz.func197 (by kernel_rfl) rfl
theorem X3w:Au Tryz.prog 165:=Ay Tryz.func165 (by kernel_rfl) rfl
theorem X3h:Au Tryz.prog 229:=Ay Tryz.func229 (by kernel_rfl) rfl
theorem X3m:Au Tryz.prog 196:=Ay Tryz.func196 (by kernel_rfl) rfl
theorem X3x:Au Tryz.prog 164:=Ay Tryz.func164 (by kernel_rfl) rfl
theorem X3y:Au Tryz.prog 162:=Ay Tryz.func162 (by kernel_rfl) rfl
theorem X3v:Au Tryz.prog 166:=Ay Tryz.func166 (by kernel_rfl) rfl
theorem N9:Au Tryz.prog 107:=Ay Tryz.func107 (by kernel_rfl) rfl
theorem X3i:Au Tryz.prog 226:=Ay Tryz.func226 (by kernel_rfl) rfl
theorem Q15:Au Tryz.prog 227:=Ay Tryz.func227 (by kernel_rfl) rfl
theorem Q2a:Au Tryz.prog 193:=Ay Tryz.func193 (by kernel_rfl) rfl
theorem X3p:Au Tryz.prog 191:=Ay Tryz.func191 (by kernel_rfl) rfl
theorem X3o:Au Tryz.prog 192:=Ay Tryz.func192 (by kernel_rfl) rfl
theorem Up:Au Tryz.prog 153:=Ay Tryz.func153 (by kernel_rfl) rfl
def Ic (c:UInt8):Bool:=decide (48≤c.toNat)&&decide (c.toNat≤57)
def X0y (c:UInt8):Bool:=(decide (97≤c.toNat)&&decide (c.toNat≤122))||(decide (65≤c.toNat)&&decide (c.toNat≤90))
def midL:List UInt8:=[46,95,43,126,94,45,58]
def F7 (c:UInt8):Bool:=Ic c||(X0y c||midL.contains c)
theorem Q0p (l:List UInt8) (c:UInt8):decide (0≤Lib.indexByte l c)=l.contains c:=by
 induction l with
 |nil=>rfl
 |cons b l ih =>
  have hge:=Lib.indexByte_ge l c
  rw[List.contains_cons,←ih,Bool.eq_iff_iff]
  rw[show Lib.indexByte (b::l) c=if b == c then 0 else if Lib.indexByte l c == -1 then -1 else Lib.indexByte l c+1 from rfl]
  by_cases h:b=c
  ·subst h;simp
  ·have h':¬c=b:=fun e=>h e.symm
   by_cases hm:Lib.indexByte l c = -1
   ·simp[h,h',hm]
   ·simp[h,h',hm];omega
theorem X8e (l:List UInt8) (c:UInt8) (w:World):Calls Tryz.prog 162 #[S l,.int .u8 (c.toNat:Int)] w (Ret fun v w'=>v = .int .i64 (Lib.indexByte l c)∧w=w'):=by
 have h:=Sh (Tryz.strings_IndexByte ⟨l.toArray⟩ (c.toNat:Int) w)
 have e:((c.toNat:Int)).toNat.toUInt8=c:=by simp
 rw[e] at h;exact h
theorem X8g (l:List UInt8) (c:UInt8) (w:World):Calls Tryz.prog 229 #[S l,S [c]] w (Ret fun v w'=>v = .int .i64 (Lib.indexByte l c)∧w=w'):=Sh (Tryz.stringslite_Index_one ⟨l.toArray⟩ c w)
theorem X8m (l:List UInt8) (c:UInt8) (w:World):Calls Tryz.prog 166 #[S l,S [c]] w (Ret fun v w'=>v = .bool (l.contains c)∧w=w'):=by
 have h:=Sh (Tryz.strings_Contains_one ⟨l.toArray⟩ c w)
 rw[show(decide (0≤Lib.indexByte (⟨l.toArray⟩:ByteArray).data.toList c))=l.contains c from Q0p l c] at h;exact h
def Oc (p:UInt8→Bool) (l:List UInt8):Nat:=(l.takeWhile p).length
theorem X5f {p:UInt8→Bool} {l:List UInt8} (ha:l.all p=true):Oc p l=l.length:=by
 unfold Oc
 induction l with
 |nil=>rfl
 |cons a r ih =>
  rw[List.all_cons,Bool.and_eq_true] at ha
  rw[List.takeWhile_cons,ha.1];simp[ih ha.2]
theorem X5e (p:UInt8→Bool) (l:List UInt8):decide ((Oc p l:Int)=(l.length:Int))=l.all p:=by
 rw[Bool.eq_iff_iff,decide_eq_true_eq]
 constructor
 ·intro h
  unfold Oc at h
  have:=(List.takeWhile_prefix p (l:=l)).eq_of_length (by omega)
  rw[←this];simp
 ·intro h;rw[X5f h]
def B2 (l:List UInt8) (c:UInt8):Nat→Int
 |0 => -1
 |k+1=>if As l k=c then (k:Int) else B2 l c k
theorem Nx {l:List UInt8} {c:UInt8} {k:Nat} (h:0 < k):B2 l c k=if As l (k-1)=c then ((k-1:Nat):Int) else B2 l c (k-1):=by
 obtain⟨j,rfl⟩:∃j,k=j+1:=⟨k-1,by omega⟩
 rfl
theorem Q0b (l:List UInt8) (c:UInt8):∀k,B2 l c k = -1∨∃j:Nat,B2 l c k=j∧j < k
 |0 => .inl rfl
 |k+1=>by
  unfold B2
  split
  ·exact .inr ⟨k,rfl,by omega⟩
  ·rcases Q0b l c k with h|⟨j,h,hj⟩
   ·exact .inl h
   ·exact .inr ⟨j,h,by omega⟩
set_option maxHeartbeats 400000 in
set_option maxRecDepth 100000 in
theorem X02 (l : List UInt8) (c : UInt8) (w : World) (hl : l.length ≤ 9223372036854775807) :
  Calls Tryz.prog 197 #[(S l),(.int .u8 (((c).toNat:Int)))] w (Ret fun v w'=>v = .int .i64 (B2 l c l.length)∧w=w'):=by
 refine Ig Tryz.func197 rfl Tryz.ntmps197 ?_
 refine Ds ?_
 refine D3 ?_
 refine Bv (v:=(.int .i64 0)) rfl rfl ?_
 refine C9 ?_
 refine Ds ?_
 refine Ds ?_
 refine D3 ?_
 refine Bv (v:=(S l)) rfl rfl ?_
 refine Rb (l:=l) rfl rfl Tryz.underlying9 ?_
 refine Q4s (b:=1) (v:=(l.length:Int)-1) rfl rfl rfl (by simp only[kLo,kHi];omega) ?_
 refine Bv (v:=(.int .i64 ((l.length:Int)-1))) rfl rfl ?_
 refine C9 ?_
 refine Vo ?_
 refine Q4p (fun g σ' w'=>∃(k:Nat),w=w'∧σ' 0=(S l)∧σ' 1=(.int .u8 (((c).toNat:Int)))∧σ' 5=(.int .i64 ((k:Int)-1))∧k≤l.length∧B2 l c l.length=B2 l c k∧g=k+1) ?_ ?_
 ·refine⟨_,l.length,rfl,rfl,rfl,rfl,?_,?_,rfl⟩
  all_goals first|rfl|omega|simp
 ·rintro g σl1 _ ⟨k,rfl,l1_0,l1_1,l1_5,f1_1,f1_2,rfl⟩
  refine Ol (d:=0) l1_0 (Ol (d:=1) l1_1 (Ol (d:=5) l1_5 (?_)))
  refine Ds ?_
  refine Ds ?_
  refine D3 ?_
  refine Bv (v:=(.int .i64 ((k:Int)-1))) rfl rfl ?_
  refine Bv (v:=(.bool (decide (0≤((k:Int)-1))))) rfl rfl ?_
  refine C9 ?_
  refine Q9 (p:=0≤((k:Int)-1)) rfl (fun c1=>?_) (fun c1=>?_)
  ·refine Ok ?_
   refine Ds ?_
   refine Vo ?_
   refine Ds ?_
   refine D3 ?_
   refine Bv (v:=(S l)) rfl rfl ?_
   refine Bv (v:=(.int .i64 ((k:Int)-1))) rfl rfl ?_
   refine X65 (l:=l) (j:=(k-1)) rfl rfl rfl Tryz.underlying9 (by first|rfl|omega) (by first|omega|(simp;done)|(simp;omega)) ?_
   refine Bv (v:=(.int .u8 (((c).toNat:Int)))) rfl rfl ?_
   refine Bv (v:=(.bool (decide (((As l (k-1)).toNat:Int)=((c).toNat:Int))))) rfl rfl ?_
   refine C9 ?_
   refine Q9 (p:=((As l (k-1)).toNat:Int)=((c).toNat:Int)) rfl (fun c2=>?_) (fun c2=>?_)
   ·refine Ds ?_
    refine D3 ?_
    refine Bv (v:=(.int .i64 ((k:Int)-1))) rfl rfl ?_
    refine Bv (v:=(.int .i64 ((k:Int)-1))) rfl rfl ?_
    refine C9 ?_
    refine Hq ?_
    refine Oe rfl (v0:=(.int .i64 ((k:Int)-1))) rfl ?_
    exact⟨by rw[f1_2,Nx (by omega),if_pos (UInt8.toNat_inj.1 (by omega))];congr 1;omega,rfl⟩
   ·refine Ok ?_
    refine D3 ?_
    refine Bv (v:=(.int .i64 ((k:Int)-1))) rfl rfl ?_
    refine Q4s (v:=((k-1:Nat):Int)-1) (hv:=by omega) rfl rfl rfl (by simp only[kLo,kHi];omega) ?_
    refine Bv (v:=(.int .i64 (((k-1:Nat):Int)-1))) rfl rfl ?_
    refine C9 ?_
    refine⟨_,?_,(k-1),rfl,rfl,rfl,rfl,?_,?_,rfl⟩
    ·omega
    ·omega
    ·rw[f1_2,Nx (by omega),if_neg (fun e=>c2 (by rw[e]))]
  ·refine Q4r ?_
   refine Ds ?_
   refine D3 ?_
   refine Bv (v:=(.int .i64 (-1))) rfl rfl ?_
   refine C9 ?_
   refine Hq ?_
   refine Oe rfl (v0:=(.int .i64 (-1))) rfl ?_
   exact⟨by rw[f1_2,show k=0 by omega];rfl,rfl⟩
set_option maxHeartbeats 400000 in
set_option maxRecDepth 100000 in
theorem X8b (l : List UInt8) (c : UInt8) (w : World) (hl : l.length ≤ 9223372036854775807) :
  Calls Tryz.prog 165 #[(S l),(.int .u8 (((c).toNat:Int)))] w (Ret fun v w'=>v = .int .i64 (B2 l c l.length)∧w=w'):=by
 refine Ig Tryz.func165 rfl Tryz.ntmps165 ?_
 refine Ds ?_
 refine D3 ?_
 refine Bv (v:=(.int .i64 0)) rfl rfl ?_
 refine C9 ?_
 refine Ds ?_
 refine D3 ?_
 refine Bv (v:=(S l)) rfl rfl ?_
 refine Bv (v:=(.int .u8 (((c).toNat:Int)))) rfl rfl ?_
 refine Gc rfl (by exact X3l) (X02 l c _ hl) ?_
 rintro _ _ ⟨rfl,rfl⟩
 refine Bv (v:=(.int .i64 (B2 l c l.length))) rfl rfl ?_
 refine C9 ?_
 refine Hq ?_
 refine Oe rfl (v0:=(.int .i64 (B2 l c l.length))) rfl ?_
 exact⟨rfl,rfl⟩
def Id (l:List UInt8) (c:UInt8):Value:=if 0≤Lib.indexByte l c then .tuple #[S (l.take (Lib.indexByte l c).toNat),S (l.drop ((Lib.indexByte l c).toNat+1)),.bool true] else .tuple #[S l,S [],.bool false]
theorem Q0o (l:List UInt8) (c:UInt8):Lib.indexByte l c < l.length:=by
 induction l with
 |nil=>simp[Lib.indexByte]
 |cons b l ih=>unfold Lib.indexByte;simp only[List.length_cons];(repeat' split)<;>omega
end
section
open Go Go.RowKit
theorem Q0s (l:List UInt8) (c:UInt8):Lib.indexByte l c = -1∨∃j:Nat,Lib.indexByte l c=j∧j < l.length:=by
 have h1:=Lib.indexByte_ge l c
 have h2:=Q0o l c
 by_cases h:Lib.indexByte l c = -1
 ·exact .inl h
 ·exact .inr ⟨(Lib.indexByte l c).toNat,by omega,by omega⟩
theorem U1 {l:List UInt8} {c:UInt8} (h:Lib.indexByte l c = -1):Id l c = .tuple #[S l,S [],.bool false]:=by unfold Id;rw[h,if_neg (by omega)]
theorem U0 {l:List UInt8} {c:UInt8} {j:Nat} (h:Lib.indexByte l c=j):Id l c = .tuple #[S (l.take j),S (l.drop (j+1)),.bool true]:=by unfold Id;rw[h,if_pos (by omega),Int.toNat_natCast]
set_option maxHeartbeats 400000 in
set_option maxRecDepth 100000 in
theorem X47 (l : List UInt8) (c : UInt8) (w : World) (hl : l.length ≤ 9223372036854775807) :
  Calls Tryz.prog 196 #[(S l),(S ([c]))] w (Ret fun v w'=>v=Id l c∧Below w.heap.size w w'):=by
 refine Ig Tryz.func196 rfl Tryz.ntmps196 ?_
 refine Ds ?_
 refine D3 ?_
 refine Bv (v:=(S [])) rfl rfl ?_
 refine Bv (v:=(S [])) rfl rfl ?_
 refine Bv (v:=(.bool false)) rfl rfl ?_
 refine C9 ?_
 refine Ds ?_
 refine Ds ?_
 refine D3 ?_
 refine Bv (v:=(S l)) rfl rfl ?_
 refine Bv (v:=(S ([c]))) rfl rfl ?_
 refine Gc rfl (by exact X3h) (X8g l c _) ?_
 rintro _ _ ⟨rfl,rfl⟩
 rcases Q0s l c with hz|⟨j,hz,hj⟩
 ·refine On 10 (v:=.int .i64 (Lib.indexByte l c)) rfl (by rw[hz]:_=Value.int .i64 (-1)) ?_
  refine Bv (v:=(.int .i64 (-1))) rfl rfl ?_
  refine C9 ?_
  refine Ds ?_
  refine D3 ?_
  refine Bv (v:=(.int .i64 (-1))) rfl rfl ?_
  refine Bv (v:=(.bool false)) rfl rfl ?_
  refine C9 ?_
  refine Q4q rfl ?_
  refine Ok ?_
  refine Ds ?_
  refine D3 ?_
  refine Bv (v:=(S l)) rfl rfl ?_
  refine Bv (v:=(S l)) rfl rfl ?_
  refine Bv (v:=(S [])) rfl rfl ?_
  refine Bv (v:=(.bool false)) rfl rfl ?_
  refine C9 ?_
  refine Hq ?_
  refine Q5 rfl (v0:=(S l)) (v1:=(S [])) (v2:=(.bool false)) rfl rfl rfl ?_
  have hbel:=(Below.refl w.heap.size w)
  exact⟨(U1 hz).symm,hbel⟩
 ·refine On 10 (v:=.int .i64 (Lib.indexByte l c)) rfl (by rw[hz]:_=Value.int .i64 (j:Int)) ?_
  refine Bv (v:=(.int .i64 ((j:Int)))) rfl rfl ?_
  refine C9 ?_
  refine Ds ?_
  refine D3 ?_
  refine Bv (v:=(.int .i64 ((j:Int)))) rfl rfl ?_
  refine Bv (v:=(.bool (decide (0≤(j:Int))))) rfl rfl ?_
  refine C9 ?_
  refine Q9 (p:=0≤(j:Int)) rfl (fun c1=>?_) (fun c1=>?_)
  ·refine Ds ?_
   refine X6z (by kernel_rfl) (by kernel_rfl) ?_
   refine J2 (v:=(S l)) rfl rfl ?_
   refine J2 (v:=(.int .i64 ((j:Int)))) rfl rfl ?_
   refine Om rfl (fun _ _=>Q5b (l:=l) (j:=j) rfl rfl Tryz.underlying9 (by first|rfl|omega) (by first|omega|(simp;done)|(simp;omega))) ?_
   refine J2 (v:=(S l)) rfl rfl ?_
   refine J2 (v:=(.int .i64 ((j:Int)))) rfl rfl ?_
   refine J2 (v:=(S ([c]))) rfl rfl ?_
   refine Om rfl (fun _ _=>Q5c (l:=[c]) rfl Tryz.underlying9) ?_
   refine Om rfl (fun _ _=>Vy (b:=1) (v:=(j:Int)+1) rfl rfl (by simp only[kLo,kHi];omega)) ?_
   refine Om rfl (fun _ _=>X7y (l:=l) (i:=j+1) rfl rfl Tryz.underlying9 (by first|rfl|omega) (by first|omega|(simp;done)|(simp;omega))) ?_
   refine J2 (v:=(S ((l.take j)))) rfl rfl ?_
   refine J2 (v:=(S ((l.drop (j+1))))) rfl rfl ?_
   refine J2 (v:=(.bool true)) rfl rfl ?_
   refine X61 (fun w1 d1=>?_)
   refine Hq ?_
   refine Q5 rfl (v0:=(S ((l.take j)))) (v1:=(S ((l.drop (j+1))))) (v2:=(.bool true)) rfl rfl rfl ?_
   have hbel:=(d1.below (Below.refl w.heap.size w))
   exact⟨(U0 hz).symm,hbel⟩
  ·omega
set_option maxHeartbeats 400000 in
set_option maxRecDepth 100000 in
theorem X8k (l : List UInt8) (c : UInt8) (w : World) (hl : l.length ≤ 9223372036854775807) :
  Calls Tryz.prog 164 #[(S l),(S ([c]))] w (Ret fun v w'=>v=Id l c∧Below w.heap.size w w'):=by
 refine Ig Tryz.func164 rfl Tryz.ntmps164 ?_
 refine Ds ?_
 refine D3 ?_
 refine Bv (v:=(S [])) rfl rfl ?_
 refine Bv (v:=(S [])) rfl rfl ?_
 refine Bv (v:=(.bool false)) rfl rfl ?_
 refine C9 ?_
 refine Ds ?_
 refine D3 ?_
 refine Bv (v:=(S l)) rfl rfl ?_
 refine Bv (v:=(S ([c]))) rfl rfl ?_
 refine Gc rfl (by exact X3m) (X47 l c _ hl) ?_
 rintro _ w1 ⟨rfl,h1⟩
 have z_w1:=h1.size
 rcases Q0s l c with hz|⟨j,hz,hj⟩
 ·refine On 9 (v:=Id l c) rfl (U1 hz) ?_
  refine Bv (v:=(S l)) rfl rfl ?_
  refine Bv (v:=(S [])) rfl rfl ?_
  refine Bv (v:=(.bool false)) rfl rfl ?_
  refine Bv (v:=(S l)) rfl rfl ?_
  refine Bv (v:=(S [])) rfl rfl ?_
  refine Bv (v:=(.bool false)) rfl rfl ?_
  refine C9 ?_
  refine Hq ?_
  refine Q5 rfl (v0:=(S l)) (v1:=(S [])) (v2:=(.bool false)) rfl rfl rfl ?_
  have hbel:=(Q3x (Below.refl w.heap.size w) h1)
  exact⟨(U1 hz).symm,hbel⟩
 ·refine On 9 (v:=Id l c) rfl (U0 hz) ?_
  refine Bv (v:=(S ((l.take j)))) rfl rfl ?_
  refine Bv (v:=(S ((l.drop (j+1))))) rfl rfl ?_
  refine Bv (v:=(.bool true)) rfl rfl ?_
  refine Bv (v:=(S ((l.take j)))) rfl rfl ?_
  refine Bv (v:=(S ((l.drop (j+1))))) rfl rfl ?_
  refine Bv (v:=(.bool true)) rfl rfl ?_
  refine C9 ?_
  refine Hq ?_
  refine Q5 rfl (v0:=(S ((l.take j)))) (v1:=(S ((l.drop (j+1))))) (v2:=(.bool true)) rfl rfl rfl ?_
  have hbel:=(Q3x (Below.refl w.heap.size w) h1)
  exact⟨(U0 hz).symm,hbel⟩
def F9 (l:List UInt8):Bool:=l.all Ic&&(decide (1≤l.length)&&decide (l.length≤9))
def H4 (l:List UInt8):Bool:=l.all F7&&(decide (1≤l.length)&&decide (l.length≤60))
def K2 (r:List UInt8):Bool :=
 (if 0≤B2 r 45 r.length then !decide (r.drop ((B2 r 45 r.length).toNat+1)=[])&&!decide (r.take (B2 r 45 r.length).toNat=[]) else !decide (r=[]))&&!r.contains 58
def Js (l:List UInt8):Bool:=H4 l&&(if 0≤Lib.indexByte l 58 then F9 (l.take (Lib.indexByte l 58).toNat)&&K2 (l.drop ((Lib.indexByte l 58).toNat+1)) else K2 l)
def Cg (l:List UInt8):Int:=if Js l then 0 else 30
def N4 (l:List UInt8):List UInt8 × List UInt8 × List UInt8 :=
 let r:=if 0≤Lib.indexByte l 58 then l.drop ((Lib.indexByte l 58).toNat+1) else l
 (if 0≤Lib.indexByte l 58 then l.take (Lib.indexByte l 58).toNat else [],
  if 0≤B2 r 45 r.length then r.take (B2 r 45 r.length).toNat else r,
  if 0≤B2 r 45 r.length then r.drop ((B2 r 45 r.length).toNat+1) else [])
def Cv (l:List UInt8):List UInt8 × List UInt8 × List UInt8:=if Cg l=0 then N4 l else ([],[],[])
theorem I2 {l:List UInt8} (h:(30:Int)=Cg l):Cv l=([],[],[]):=by unfold Cv;rw[if_neg (by omega)]
theorem Q1l {l:List UInt8} (h:(0:Int)=Cg l):Cv l=N4 l:=by unfold Cv;rw[if_pos h.symm]
theorem Q1n {l:List UInt8} (h:H4 l=false):Cg l=30:=by simp[Cg,Js,h]
theorem X2t {l:List UInt8} {j:Nat} (hz:Lib.indexByte l 58=j) (h:F9 (l.take j)=false):Cg l=30:=by simp[Cg,Js,hz,h]
theorem Q0 (p:UInt8→Bool) (l:List UInt8):((Oc p l:Int)=(l.length:Int))↔l.all p=true:=by rw[←X5e,decide_eq_true_eq]
end
section
open Go Go.RowKit
theorem Q0q (b:UInt8) (l:List UInt8) (c:UInt8):Lib.indexByte (b::l) c=if b=c then 0 else if Lib.indexByte l c = -1 then -1 else Lib.indexByte l c+1:=by
 rw[show Lib.indexByte (b::l) c=if b == c then 0 else if Lib.indexByte l c == -1 then -1 else Lib.indexByte l c+1 from rfl];simp
def Ii (l:List UInt8) (c:UInt8) (i:Nat):Prop:=Lib.indexByte l c=if Lib.indexByte (l.drop i) c = -1 then -1 else Lib.indexByte (l.drop i) c+(i:Int)
theorem X1n (l:List UInt8) (c:UInt8):Ii l c 0:=by unfold Ii;rw[List.drop_zero];split<;>omega
theorem Q0r {l:List UInt8} {c:UInt8} {i:Nat} (h:Ii l c i) (hi:i < l.length) (hc:As l i=c):Lib.indexByte l c=(i:Int):=by
 unfold Ii at h;rw[Ju hi,Q0q,if_pos hc,if_neg (by omega)] at h;omega
theorem X1o {l:List UInt8} {c:UInt8} {i:Nat} (h:Ii l c i) (hi:l.length≤i):Lib.indexByte l c = -1:=by
 unfold Ii at h;rw[List.drop_of_length_le hi] at h;simpa [Lib.indexByte] using h
theorem X1m {l:List UInt8} {c:UInt8} {i:Nat} (h:Ii l c i) (hi:i < l.length) (hc:¬As l i=c):Ii l c (i+1):=by
 have hge:=Lib.indexByte_ge (l.drop (i+1)) c
 unfold Ii at h ⊢;rw[Ju hi,Q0q,if_neg hc] at h
 rw[h]
 by_cases hm:Lib.indexByte (l.drop (i+1)) c = -1
 ·simp[hm]
 ·rw[if_neg hm,if_neg (by omega),if_neg hm];omega
end
section
open Go Go.RowKit
inductive DepT where
  |mk (kind:Int) (name:List UInt8) (op:Int) (evr:List UInt8) (args:List DepT)
instance:Inhabited DepT:=⟨.mk 0 [] 0 [] []⟩
mutual
def DepC (w:World):DepT→List Value→Prop
  |.mk k nm op ev args,cs=>∃(sv:Value) (css:List (List Value)),cs=[.int .i64 k,S nm,.int .i64 op,S ev,sv]∧RowIs w sv args.length 5 css.flatten∧ArgsC w args css
def ArgsC (w:World):List DepT→List (List Value)→Prop
  |[],css=>css=[]
  |d::r,css=>∃(c:List Value) (cr:List (List Value)),css=c::cr∧DepC w d c∧ArgsC w r cr
end
mutual
theorem DepC.ext {w w':World} (hb:Below w.heap.size w w'):∀(d:DepT) (cs:List Value),DepC w d cs→DepC w' d cs
  |.mk k nm op ev args,cs,h=>by
    unfold DepC at h ⊢
    obtain⟨sv,css,h1,h2,h3⟩:=h
    exact⟨sv,css,h1,h2.ext hb,ArgsC.ext hb args css h3⟩
theorem ArgsC.ext {w w':World} (hb:Below w.heap.size w w'):∀(l:List DepT) (css:List (List Value)),ArgsC w l css→ArgsC w' l css
  |[],css,h=>by unfold ArgsC at h ⊢;exact h
  |d::r,css,h=>by
    unfold ArgsC at h ⊢
    obtain⟨c,cr,h1,h2,h3⟩:=h
    exact⟨c,cr,h1,DepC.ext hb d c h2,ArgsC.ext hb r cr h3⟩
end
theorem DepC.len {w:World} {d:DepT} {cs:List Value} (h:DepC w d cs):cs.length=5:=by
  cases d;unfold DepC at h
  obtain⟨sv,css,h1,_⟩:=h
  rw[h1];rfl
theorem ArgsC.len {w:World}:∀{l:List DepT} {css:List (List Value)},ArgsC w l css→css.length=l.length
  |[],css,h=>by unfold ArgsC at h;rw[h];rfl
  |d::r,css,h=>by
    unfold ArgsC at h
    obtain⟨c,cr,h1,_,h3⟩:=h
    rw[h1,List.length_cons,List.length_cons,ArgsC.len h3]
theorem ArgsC.at {w:World}:∀{l:List DepT} {css:List (List Value)} (_:ArgsC w l css) (i:Nat),i < l.length→DepC w (nth l i) (nth css i)
  |[],_,_,_,hi=>by simp at hi
  |d::r,css,h,i,hi=>by
    unfold ArgsC at h
    obtain⟨c,cr,rfl,h2,h3⟩:=h
    cases i with
    |zero=>exact h2
    |succ i=>exact ArgsC.at h3 i (by simpa using hi)
theorem ArgsC.each {w:World}:∀{l:List DepT} {css:List (List Value)} (_:ArgsC w l css),∀c∈css,c.length=5
  |[],css,h=>by unfold ArgsC at h;rw[h];simp
  |d::r,css,h=>by
    unfold ArgsC at h
    obtain⟨c,cr,rfl,h2,h3⟩:=h
    intro x hx
    rcases List.mem_cons.1 hx with rfl|hx
    · exact h2.len
    · exact ArgsC.each h3 x hx
def DepIs (w:World) (d:DepT) (v:Value):Prop:=∃cs,v = .agg cs.toArray∧DepC w d cs
theorem DepIs.ext {w w':World} {d:DepT} {v:Value} (h:DepIs w d v) (hb:Below w.heap.size w w'):DepIs w' d v:=by
  obtain⟨cs,h1,h2⟩:=h;exact⟨cs,h1,h2.ext hb d cs⟩
end
section
open Go Go.RowKit
theorem Q2n:Au Tryz.prog 116:=Ay Tryz.func116 (by kernel_rfl) rfl
mutual
def DepT.size:DepT→Nat
 |.mk _ nm _ ev args=>argsSize args+1+nm.length+ev.length
def argsSize:List DepT→Nat
 |[]=>0
 |d::r=>d.size+argsSize r
end
mutual
def Ek:DepT→Nat
 |.mk k _ _ _ args=>if k=1 then 1 else argsParts args
def argsParts:List DepT→Nat
 |[]=>0
 |d::r=>Ek d+argsParts r
end
mutual
theorem X3:∀d:DepT,Ek d≤d.size
 |.mk k _ _ _ args=>by unfold Ek DepT.size;have:=argsParts_le args;split<;>omega
theorem argsParts_le:∀l:List DepT,argsParts l≤argsSize l
 |[]=>by simp[argsParts,argsSize]
 |d::r=>by unfold argsParts argsSize;have:=X3 d;have:=argsParts_le r;omega
end
theorem X56 {l:List DepT} {i:Nat} (h:i < l.length):argsParts (l.take (i+1))=argsParts (l.take i)+Ek (nth l i):=by
 induction l generalizing i with
 |nil=>simp at h
 |cons d r ih =>
  cases i with
  |zero=>simp[argsParts,nth]
  |succ i =>
   have:=ih (i:=i) (by simpa using h)
   simp only[List.take_succ_cons,argsParts,this]
   have hn:nth (d::r) (i+1)=nth r i:=rfl
   rw[hn];omega
theorem K7 {l:List DepT} {i:Nat} (h:i < l.length):(nth l i).size≤argsSize l:=by
 induction l generalizing i with
 |nil=>simp at h
 |cons d r ih =>
  unfold argsSize
  cases i with
  |zero=>show d.size≤_;omega
  |succ i=>have:=ih (i:=i) (by simpa using h);show(nth r i).size≤_;omega
end
section
open Go Go.RowKit
def WH (P:Program) (n:Nat) (ops:Array Oper) (Q:(Nat→Value)→World→Prop) (B:World) (fuel:Nat) (listed:Array Bool) (σ:Nat→Value) (w:World):Prop :=
  wpAnyH P .any ops (fun e a w=>e = .normal∧∃σ,a=mk n σ∧Q σ w) (fun w'=>Below B.heap.size B w') fuel listed (mk n σ) w
section
variable {P : Program} {n : Nat} {σ : Nat → Value} {w : World}
variable {ops : Array Oper} {Q : (Nat → Value) → World → Prop} {fuel : Nat} {listed : Array Bool} {B : World}
variable {dst : Option Tmp} {ty : TypeId} {ps : String} {af : Array Edge} {g : Option (Nat × Bool)}
end
theorem X10 (w:World) (r:Option Nat):w.grownBy w r:=⟨rfl,rfl,rfl,Nat.le_refl _,fun _ _ _=>rfl⟩
theorem X1z {w w1 w2:World} {r:Option Nat} {b:Nat} {o:Obj} (g:w.grownBy w1 r) (u:Upd w1 w2 b o) (h:w.heap.size≤b∨r=some b):w.grownBy w2 r :=
  ⟨u.os.trans g.os,u.tape.trans g.tape,u.output.trans g.output,by rw[u.size];exact g.size,fun k hk hr=>by
    rw [u.block k (by rcases h with h | rfl; · omega
                      · exact fun e=>hr (by rw[e]))]
    exact g.block k hk hr⟩
attribute [irreducible] WH
end
section
open Go Go.RowKit
theorem Uf:Au Tryz.prog 80:=Ay Tryz.func80 (by kernel_rfl) rfl
mutual
def Ca:DepT→DepT→Bool
 |.mk k nm op ev args,.mk k' nm' op' ev' args'=>decide (k=k'∧nm=nm'∧op=op'∧ev=ev')&&sameL args args'
def sameL:List DepT→List DepT→Bool
 |[],[]=>true
 |a::r,b::s=>Ca a b&&sameL r s
 |_,_=>false
end
mutual
theorem Jk:∀(a b:DepT),Ca a b=true↔a=b
 |.mk k nm op ev args,.mk k' nm' op' ev' args'=>by
  unfold Ca
  simp only[Bool.and_eq_true,decide_eq_true_eq,sameL_eq args args',DepT.mk.injEq]
  constructor
  ·rintro⟨⟨a,b,c,d⟩,e⟩;exact⟨a,b,c,d,e⟩
  ·rintro⟨a,b,c,d,e⟩;exact⟨⟨a,b,c,d⟩,e⟩
theorem sameL_eq:∀(l m:List DepT),sameL l m=true↔l=m
 |[],[]=>by simp[sameL]
 |[],_::_=>by simp[sameL]
 |_::_,[]=>by simp[sameL]
 |a::r,b::s=>by simp only[sameL,Bool.and_eq_true,Jk a b,sameL_eq r s,List.cons.injEq]
end
end
section
open Go Go.RowKit
theorem Q2o:Au Tryz.prog 115:=Ay Tryz.func115 (by kernel_rfl) rfl
theorem Q1w:Au Tryz.prog 51:=Ay Tryz.func51 (by kernel_rfl) rfl
def DepT.kind:DepT→Int
 |.mk k _ _ _ _=>k
theorem ArgsC.kind {w:World} {args:List DepT} {css:List (List Value)} (h:ArgsC w args css) {i:Nat} (hi:i < args.length):(nth css i)[0]? = some (.int .i64 (nth args i).kind):=by
 have h1:=ArgsC.at h i hi
 cases hd:nth args i with
 |mk k nm op ev bs =>
  rw[hd] at h1
  unfold DepC at h1
  obtain⟨sv,cs,h2,_⟩:=h1
  rw[h2];rfl
def H9 (nm:List UInt8) (op:Int) (ev:List UInt8) (n:Nat):Bool:=Bq nm&&(decide (0≤op)&&(decide (op≤7)&&(decide (n=0)&&(if op=0 then decide (ev=[]) else decide (Cg ev=0)))))
def G6 (k:Int) (nm:List UInt8) (op:Int) (ev:List UInt8) (n:Nat):Bool:=decide ((k < 2∨6 < k∨nm≠[]∨op≠0∨ev≠[]∨n < 2)∨((k=4∧3 < n)∨(k=6∧2 < n)))
def Iw (k m:Int):Bool:=!decide (5≤k∧m≠1∧m≠5∧m≠6)
mutual
def Dg:DepT→Bool
 |.mk k nm op ev args=>if k=1 then H9 nm op ev args.length else !G6 k nm op ev args.length&&argsForm k args
def argsForm (k:Int):List DepT→Bool
 |[]=>true
 |d::r=>Iw k d.kind&&(Dg d&&argsForm k r)
end
theorem Vg {k:Int} {l:List DepT} {i:Nat} (h:i < l.length):argsForm k (l.drop i)=(Iw k (nth l i).kind&&(Dg (nth l i)&&argsForm k (l.drop (i+1)))):=by rw[Mm h,argsForm]
section
variable {k op : Int} {nm ev : List UInt8} {n : Nat}
theorem Q1a (h:¬(Bq nm=true∧0≤op∧op≤7∧n=0)):H9 nm op ev n=false:=by
 unfold H9
 cases hn:Bq nm with
 |false=>rfl
 |true =>
  by_cases h1:0≤op
  ·by_cases h2:op≤7
   ·have h3:n≠0:=fun h3=>h ⟨hn,h1,h2,h3⟩
    simp[h1,h2,h3]
   ·simp[h1,h2]
  ·simp[h1]
theorem X2b (h:Bq nm=true∧0≤op∧op≤7∧n=0) (h0:op=0):H9 nm op ev n=decide (ev=[]):=by
 unfold H9;simp[h.1,h0,h.2.2.2]
theorem X2c (h:Bq nm=true∧0≤op∧op≤7∧n=0) (h0:¬op=0):H9 nm op ev n=decide (Cg ev=0):=by
 unfold H9;simp[h.1,h.2.1,h.2.2.1,h0,h.2.2.2]
theorem X2p (h:k < 2∨6 < k∨nm≠[]∨op≠0∨ev≠[]∨n < 2):G6 k nm op ev n=true:=by unfold G6;exact decide_eq_true (.inl h)
theorem X2o (h:(k=4∧3 < n)∨(k=6∧2 < n)):G6 k nm op ev n=true:=by unfold G6;exact decide_eq_true (.inr h)
theorem X2n (h:¬(k < 2∨6 < k∨nm≠[]∨op≠0∨ev≠[]∨n < 2)) (h':¬((k=4∧3 < n)∨(k=6∧2 < n))):G6 k nm op ev n=false:=by
 unfold G6;exact decide_eq_false fun hc=>hc.elim h h'
theorem X07 {m:Int} (h:5≤k∧m≠1∧m≠5∧m≠6):Iw k m=false:=by unfold Iw;rw[decide_eq_true h];rfl
theorem Q0d {m:Int} (h:¬(5≤k∧m≠1∧m≠5∧m≠6)):Iw k m=true:=by unfold Iw;rw[decide_eq_false h];rfl
end
def Ct (d:DepT):Int:=if Dg d then (if 16 < Ek d then 51 else 0) else 50
end
section
open Go Go.RowKit
theorem Q2h:Au Tryz.prog 148:=Ay Tryz.func148 (by kernel_rfl) rfl
theorem X3q:Au Tryz.prog 190:=Ay Tryz.func190 (by kernel_rfl) rfl
theorem Qm:Au Tryz.prog 88:=Ay Tryz.func88 (by kernel_rfl) rfl
theorem Ur:Au Tryz.prog 133:=Ay Tryz.func133 (by kernel_rfl) rfl
theorem Q2g:Au Tryz.prog 149:=Ay Tryz.func149 (by kernel_rfl) rfl
theorem Ub:Au Tryz.prog 95:=Ay Tryz.func95 (by kernel_rfl) rfl
theorem X36:Au Tryz.prog 150:=Ay Tryz.func150 (by kernel_rfl) rfl
def Me (k:Int) (d:DepT):Bool:=!(Iw k d.kind&&Dg d)
def Ew (k:Int):Int:=if k=4 then 3 else if k=6 then 2 else 0
theorem Q96 (k:Int):((Bx (Ec (Ec ([]:List (Int × Int)) 4 3) 6 2) k).map I64).getD (.int .i64 0) = .int .i64 (Ew k):=by
 have e:Ec (Ec ([]:List (Int × Int)) 4 3) 6 2=[(4,3),(6,2)]:=rfl
 rw[e]
 unfold Bx Ew
 by_cases h1:k=4
 ·subst h1;rfl
 ·by_cases h2:k=6
  ·subst h2;rfl
  ·simp[h1,h2]
theorem Q04 {k:Int} {nm ev:List UInt8} {op:Int} {n:Nat}:G6 k nm op ev n=decide ((k < 2∨6 < k∨nm≠[]∨op≠0∨ev≠[]∨n < 2)∨(0 < Ew k∧Ew k < (n:Int))):=by
 unfold G6 Ew
 rw[decide_eq_decide]
 refine or_congr Iff.rfl ?_
 by_cases h1:k=4
 ·subst h1;simp<;>omega
 ·by_cases h2:k=6
  ·subst h2;simp<;>omega
  ·simp[h1,h2]
theorem Q03 {nm ev:List UInt8} {op:Int} {n:Nat}:H9 nm op ev n=decide (Bq nm=true∧n=0∧(op=0∧ev=[]∨(1≤op∧op≤7)∧Cg ev=0)):=by
 rw[Bool.eq_iff_iff,decide_eq_true_eq]
 unfold H9
 by_cases h:op=0
 ·subst h;simp
 ·simp only[Bool.and_eq_true,decide_eq_true_eq,if_neg h]
  constructor
  ·rintro⟨a,b,c,d,e⟩;exact⟨a,d,.inr ⟨⟨by omega,c⟩,e⟩⟩
  ·rintro⟨a,d,(⟨b,_⟩|⟨⟨b,c⟩,e⟩)⟩
   ·exact absurd b h
   ·exact⟨a,by omega,c,d,e⟩
theorem Q31 {k:Int}:∀{l:List DepT},(l.any (Me k)) = !argsForm k l
 |[]=>rfl
 |d::r=>by
  rw[List.any_cons,Q31,argsForm]
  unfold Me
  cases Iw k d.kind<;>cases Dg d<;>simp
end
section
open Go Go.RowKit
mutual
def Ev:DepT→Nat
 |.mk k _ _ _ args=>(if k=1 then 1 else 0)+argsNames args
def argsNames:List DepT→Nat
 |[]=>0
 |d::r=>Ev d+argsNames r
end
mutual
theorem Q90:∀d:DepT,Ev d≤d.size
 |.mk k nm _ ev args=>by unfold Ev DepT.size;have:=argsNames_le args;split<;>omega
theorem argsNames_le:∀l:List DepT,argsNames l≤argsSize l
 |[]=>by simp[argsNames,argsSize]
 |d::r=>by unfold argsNames argsSize;have:=Q90 d;have:=argsNames_le r;omega
end
theorem X57 {l:List DepT} {i:Nat} (h:i < l.length):argsNames (l.take (i+1))=argsNames (l.take i)+Ev (nth l i):=by
 induction l generalizing i with
 |nil=>simp at h
 |cons d r ih =>
  cases i with
  |zero=>simp[argsNames,nth]
  |succ i =>
   have:=ih (i:=i) (by simpa using h)
   simp only[List.take_succ_cons,argsNames,this]
   have hn:nth (d::r) (i+1)=nth r i:=rfl
   rw[hn];omega
theorem Q32 {l:List DepT} {i:Nat} (h:i < l.length):argsSize (l.take i)+(nth l i).size≤argsSize l:=by
 induction l generalizing i with
 |nil=>simp at h
 |cons d r ih =>
  cases i with
  |zero=>simp only[List.take_zero,argsSize];show 0+d.size≤_;omega
  |succ i =>
   have:=ih (i:=i) (by simpa using h)
   have hn:nth (d::r) (i+1)=nth r i:=rfl
   simp only[List.take_succ_cons,argsSize,hn];omega
set_option maxHeartbeats 400000 in
set_option maxRecDepth 100000 in
theorem U2 (l : List UInt8) (b0 m : Nat) (w : World) (hc : w.heap[b0]? = some (.cells #[.int .i64 ((m : Int))] 3 (0, 0))) (hm : m ≤ 9000000) :
  Calls Tryz.prog 150 #[(S l),(.pointer (some ⟨b0,0,none⟩))] w (Ret fun v w'=>w'.heap[b0]? = some (.cells #[.int .i64 (((m+1:Nat):Int))] 3 (0,0))∧w.grownBy w' (some b0)):=by
 refine Ig Tryz.func150 rfl Tryz.ntmps150 ?_
 refine D3 ?_
 refine Q4v (a:=⟨b0,0,none⟩) (v:=(.int .i64 ((m:Int)))) rfl rfl Tryz.underlying3 rfl (U9 hc rfl) ?_
 refine X67 (b:=1) (v:=(m:Int)+1) rfl rfl rfl (by simp only[kLo,kHi];omega) ?_
 have p1:=hc
 refine Q4t (b:=b0) (o:=0) (v:=(.int .i64 ((m:Int)+1))) rfl rfl rfl (fun _=>by kernel_rfl) rfl p1 (by simp) (fun w1 u1=>?_)
 have e1:w1.heap[b0]? = some (.cells #[(.int .i64 ((m:Int)+1))] 3 (0,0)):=u1.here
 have z1:=u1.size
 refine C9 ?_
 refine X5y (fn:=Tryz.f150) (by first|exact .inl rfl|exact .inr rfl) rfl ?_
 exact⟨by simpa using e1,(X1z (X10 w _) u1 (by first|(left;omega)|(right;rfl)))⟩
end
section
open Go Go.RowKit
mutual
theorem Td:∀d:DepT,Dg d=true→Ev d=Ek d
 |.mk k nm op ev args,h=>by
  unfold Dg at h
  unfold Ev Ek
  by_cases hk:k=1
  ·rw[if_pos hk] at h
   rw[if_pos hk,if_pos hk]
   rw[Q03] at h
   have h0:=(of_decide_eq_true h).2.1
   rw[List.length_eq_zero_iff.1 h0];rfl
  ·rw[if_neg hk] at h
   rw[if_neg hk,if_neg hk]
   simp only[Bool.and_eq_true] at h
   rw[argsNames_parts k args h.2];omega
theorem argsNames_parts (k:Int):∀l:List DepT,argsForm k l=true→argsNames l=argsParts l
 |[],_=>rfl
 |d::r,h=>by
  unfold argsForm at h
  simp only[Bool.and_eq_true] at h
  unfold argsNames argsParts
  rw[Td d h.2.1,argsNames_parts k r h.2.2]
end
end
section
open Go Go.RowKit
def Fg:List UInt8→List UInt8
 |[]=>[]
 |c::r=>if c=32 then Fg r else c::r
def Jj:List UInt8→Nat→Nat
 |[],_=>0
 |c::r,n=>if c=32 then 0 else if c=41 then (if n=0 then 0 else Jj r (n-1)+1) else if c=40 then Jj r (n+1)+1 else Jj r n+1
def Eu (s:List UInt8):List UInt8 × List UInt8:=match Fg s with
 |[]=>([],[])
 |c::r=>if c=40∨c=41 then ([c],r) else ((c::r).take (Jj (c::r) 0),(c::r).drop (Jj (c::r) 0))
def Lg:Nat→List UInt8→List (List UInt8)
 |0,_=>[]
 |n+1,s=>if (Eu s).1=[] then [] else (Eu s).1::Lg n (Eu s).2
def Mz (s:List UInt8):List (List UInt8):=Lg s.length s
theorem R6:∀s,(Fg s).length≤s.length
 |[]=>by simp[Fg]
 |c::r=>by unfold Fg;have:=R6 r;split<;>simp<;>omega
theorem R7:∀{s c r},Fg s=c::r→c≠32
 |[],_,_,h=>by simp[Fg] at h
 |a::s,c,r,h=>by
  unfold Fg at h
  split at h
  ·exact R7 h
  ·rename_i hne;cases h;exact hne
theorem W5 {c:UInt8} {r:List UInt8} (h1:c≠32) (h2:c≠41):1≤Jj (c::r) 0:=by
 unfold Jj;rw[if_neg h1,if_neg h2];split<;>omega
theorem Zh {s:List UInt8} (h:(Eu s).1≠[]):(Eu s).2.length < s.length:=by
 have hle:=R6 s
 unfold Eu at h ⊢
 cases hs:Fg s with
 |nil=>rw[hs] at h;exact absurd rfl h
 |cons c r =>
  rw[hs] at hle
  simp only[List.length_cons] at hle
  simp only
  split
  ·show r.length < _;omega
  ·rename_i hc
   have:=W5 (r:=r) (R7 hs) (fun e=>hc (.inr e))
   show((c::r).drop _).length < _
   rw[List.length_drop,List.length_cons];omega
theorem Wa:∀(n m:Nat) (s:List UInt8),s.length≤n→s.length≤m→Lg n s=Lg m s
 |0,m,s,hn,_=>by
  have:s=[]:=List.length_eq_zero_iff.1 (by omega)
  subst this
  cases m<;>rfl
 |n+1,0,s,_,hm=>by
  have:s=[]:=List.length_eq_zero_iff.1 (by omega)
  subst this;rfl
 |n+1,m+1,s,hn,hm=>by
  unfold Lg
  split
  ·rfl
  ·rename_i h
   have:=Zh h
   rw[Wa n m _ (by omega) (by omega)]
theorem Q5p (s:List UInt8):Mz s=if (Eu s).1=[] then [] else (Eu s).1::Mz (Eu s).2:=by
 unfold Mz
 cases hs:s.length with
 |zero =>
  have:s=[]:=List.length_eq_zero_iff.1 hs
  subst this;rfl
 |succ n =>
  conv=>lhs;unfold Lg
  split
  ·rfl
  ·rename_i h
   have:=Zh h
   rw[Wa n _ _ (by omega) (Nat.le_refl _)]
theorem Q5q:Mz []=[]:=rfl
section
variable {s : List UInt8} {j o : Nat}
end
theorem Rx {s:List UInt8} {i:Nat} (h:i < s.length):(s.take (i+1)).drop i=[As s i]:=by
 rw[List.drop_take,show i+1-i=1 by omega,Ju h];rfl
end
section
open Go Go.RowKit
theorem Uq:Au Tryz.prog 145:=Ay Tryz.func145 (by kernel_rfl) rfl
theorem Ml:Au Tryz.prog 111:=Ay Tryz.func111 (by kernel_rfl) rfl
theorem Q2e:Au Tryz.prog 168:=Ay Tryz.func168 (by kernel_rfl) rfl
def Bk (s:List UInt8) (c:UInt8):Bool:=decide (s.take 1=[c])
theorem Q00 {s:List UInt8} {c:UInt8} (h:s.length < 1):Bk s c=false:=by
 have:s=[]:=List.length_eq_zero_iff.1 (by omega)
 subst this;simp[Bk]
theorem X1u {s:List UInt8} {c:UInt8}:Bk s c=true↔0 < s.length∧As s 0=c:=by
 unfold Bk
 rw[decide_eq_true_eq]
 cases s with
 |nil=>simp
 |cons a r=>simp[As]
set_option maxHeartbeats 400000 in
set_option maxRecDepth 100000 in
theorem X1v (s : List UInt8) (c : UInt8) (w : World) (hl : s.length ≤ 9223372036854775807) :
  Calls Tryz.prog 168 #[(S s),(S ([c]))] w (Ret fun v w'=>v = .bool (Bk s c)∧w=w'):=by
 refine Ig Tryz.func168 rfl Tryz.ntmps168 ?_
 refine Ds ?_
 refine D3 ?_
 refine Bv (v:=(.bool false)) rfl rfl ?_
 refine C9 ?_
 refine X60 (fun σ' w'=>w=w'∧σ' 4=(.bool (Bk s c))) ?_ ?_
 ·refine D3 ?_
  refine Bv (v:=(S s)) rfl rfl ?_
  refine Rb (l:=s) rfl rfl Tryz.underlying9 ?_
  refine Bv (v:=(S ([c]))) rfl rfl ?_
  refine Rb (l:=[c]) rfl rfl Tryz.underlying9 ?_
  refine Bv (v:=(.bool (decide (1≤(s.length:Int))))) rfl rfl ?_
  refine Bv (v:=(.bool (decide (1≤(s.length:Int))))) rfl rfl ?_
  refine X63 10 (p:=1≤(s.length:Int)) (by exact rfl) (fun c1=>?_) (fun c1=>?_)
  ·refine Bv (v:=(S s)) rfl rfl ?_
   refine Bv (v:=(S ([c]))) rfl rfl ?_
   refine Rb (l:=[c]) rfl rfl Tryz.underlying9 ?_
   refine X62 (l:=s) (j:=1) rfl rfl rfl Tryz.underlying9 (by first|rfl|omega) (by first|omega|(simp;done)|(simp;omega)) ?_
   refine Bv (v:=(S ([c]))) rfl rfl ?_
   refine Q4u (l1:=(s.take 1)) (l2:=[c]) rfl rfl rfl ?_
   refine Bv (v:=(.bool (decide ((s.take 1)=[c])))) rfl rfl ?_
   refine Bv (v:=(.bool (decide ((s.take 1)=[c])))) rfl rfl ?_
   refine C9 ?_
   exact⟨rfl,(by show((.bool (decide ((s.take 1)=[c]))):Value)=(.bool (Bk s c));first|(show Value.bool _=Value.bool _;rw[Q00 (by omega)])|(show Value.bool _=Value.bool _;simp[Bk,c1];done)|rfl)⟩
  ·refine Fd rfl ?_
   refine Fd rfl ?_
   refine Fd rfl ?_
   refine Fd rfl ?_
   refine Fd rfl ?_
   refine Fd rfl ?_
   refine Bv (v:=(.bool false)) rfl rfl ?_
   refine Bv (v:=(.bool false)) rfl rfl ?_
   refine C9 ?_
   exact⟨rfl,(by show((.bool false):Value)=(.bool (Bk s c));first|(show Value.bool _=Value.bool _;rw[Q00 (by omega)])|(show Value.bool _=Value.bool _;simp[Bk,c1];done)|rfl)⟩
 ·rintro σ1 _ ⟨rfl,h1_4⟩
  refine Ol (d:=4) h1_4 (?_)
  refine Hq ?_
  refine Oe rfl (v0:=(.bool (Bk s c))) rfl ?_
  exact⟨rfl,rfl⟩
set_option maxHeartbeats 400000 in
set_option maxRecDepth 100000 in
theorem X8h (s : List UInt8) (c : UInt8) (w : World) (hl : s.length ≤ 9223372036854775807) :
  Calls Tryz.prog 111 #[(S s),(S ([c]))] w (Ret fun v w'=>v = .bool (Bk s c)∧w=w'):=by
 refine Ig Tryz.func111 rfl Tryz.ntmps111 ?_
 refine Ds ?_
 refine D3 ?_
 refine Bv (v:=(.bool false)) rfl rfl ?_
 refine C9 ?_
 refine Ds ?_
 refine D3 ?_
 refine Bv (v:=(S s)) rfl rfl ?_
 refine Bv (v:=(S ([c]))) rfl rfl ?_
 refine Gc rfl (by exact Q2e) (X1v s c _ hl) ?_
 rintro _ _ ⟨rfl,rfl⟩
 refine Bv (v:=(.bool (Bk s c))) rfl rfl ?_
 refine C9 ?_
 refine Hq ?_
 refine Oe rfl (v0:=(.bool (Bk s c))) rfl ?_
 exact⟨rfl,rfl⟩
end
section
open Go Go.RowKit
def S8 (r:List UInt8):Nat:=if (Bk r 40||Bk r 41)=true then 1 else Jj r 0
theorem Q9u (s:List UInt8):Eu s=((Fg s).take (S8 (Fg s)),(Fg s).drop (S8 (Fg s))):=by
 unfold Eu S8
 cases h:Fg s with
 |nil=>rfl
 |cons c r =>
  have e:∀k:UInt8,Bk (c::r) k=true↔c=k:=by
   intro k;rw[X1u];simp[As]
  by_cases hc:c=40∨c=41
  ·simp only[if_pos hc]
   rw[if_pos (by rw[Bool.or_eq_true,e,e];exact hc)];rfl
  ·simp only[if_neg hc]
   rw[if_neg (by rw[Bool.or_eq_true,e,e];exact hc)]
end
section
open Go Go.RowKit
def atW (ws:List (List UInt8)) (n:Nat):List UInt8:=(ws[n]?).getD []
theorem X52 {ws:List (List UInt8)} {n:Nat} (h:n < ws.length):atW ws n=nth ws n:=by
  unfold atW;rw[S7 h];rfl
theorem X53 {ws:List (List UInt8)} {n:Nat} (h:ws.length≤n):atW ws n=[]:=by
  unfold atW;rw[List.getElem?_eq_none h];rfl
def V8 (ws:List (List UInt8)):Nat→Nat→Nat
  |_,0=>0
  |n,k+1=>V8 ws n k+((atW ws (n+k)).length+1)
def Ld (ws:List (List UInt8)) (rd:Nat→Option (DepT × Nat)):Prop:=∀n t m,rd n=some (t,m)→n < m∧t.size≤V8 ws n (m-n)
end
section
open Go Go.RowKit
def RowX (p:Nat→Prop) (w:World) (v:Value) (n sz:Nat) (xs:List Value):Prop :=
  RowIs w v n sz xs∧(∀k,v.ownBlock=some k→k < w.heap.size∧p k)∧∀a n c,v = .slice a n c→n≤c∧(a=none→c=0)
theorem RowX.go {p q : Nat → Prop} {w w' : World} {v : Value} {n sz : Nat} {xs : List Value} (h : RowX p w v n sz xs)
    (hb:∀k,k < w.heap.size→p k→q k∧w'.heap[k]? = w.heap[k]?) (hs:w.heap.size≤w'.heap.size):RowX q w' v n sz xs:=by
  obtain⟨⟨h1,h2⟩,h3,h4⟩:=h
  refine⟨⟨h1,?_⟩,fun k hk=>⟨Nat.lt_of_lt_of_le (h3 k hk).1 hs,(hb k (h3 k hk).1 (h3 k hk).2).1⟩,h4⟩
  rcases h2 with h2|⟨b,o,c,rfl,hc⟩
  · exact .inl h2
  · refine .inr ⟨b,o,c,rfl,fun j u hu=>?_⟩
    have:=h3 b rfl
    rw[World.cell?_of_block (w:=w) (a:=⟨b,o+j,none⟩) (hb b this.1 this.2).2]
    exact hc j u hu
theorem RowX.nil {p:Nat→Prop} {w:World} {sz:Nat}:RowX p w (.slice none 0 0) 0 sz []:=⟨⟨by simp,.inl ⟨rfl,_,_,rfl⟩⟩,fun k hk=>(by cases hk),fun a n c e=>(by cases e;exact⟨Nat.le_refl _,fun _=>rfl⟩)⟩
mutual
def DepX (p:Nat→Prop) (w:World):DepT→List Value→Prop
  |.mk k nm op ev args,cs=>∃(sv:Value) (css:List (List Value)),cs=[.int .i64 k,S nm,.int .i64 op,S ev,sv]∧RowX p w sv args.length 5 css.flatten∧ArgsX p w args css
def ArgsX (p:Nat→Prop) (w:World):List DepT→List (List Value)→Prop
  |[],css=>css=[]
  |d::r,css=>∃(c:List Value) (cr:List (List Value)),css=c::cr∧DepX p w d c∧ArgsX p w r cr
end
section
variable {p q : Nat → Prop} {w w' : World}
mutual
theorem DepX.go (hb:∀k,k < w.heap.size→p k→q k∧w'.heap[k]? = w.heap[k]?) (hs:w.heap.size≤w'.heap.size):∀(d:DepT) (cs:List Value),DepX p w d cs→DepX q w' d cs
  |.mk k nm op ev args,cs,h=>by
    unfold DepX at h ⊢
    obtain⟨sv,css,h1,h2,h3⟩:=h
    exact⟨sv,css,h1,h2.go hb hs,ArgsX.go hb hs args css h3⟩
theorem ArgsX.go (hb:∀k,k < w.heap.size→p k→q k∧w'.heap[k]? = w.heap[k]?) (hs:w.heap.size≤w'.heap.size):∀(l:List DepT) (css:List (List Value)),ArgsX p w l css→ArgsX q w' l css
  |[],css,h=>by unfold ArgsX at h ⊢;exact h
  |d::r,css,h=>by
    unfold ArgsX at h ⊢
    obtain⟨c,cr,h1,h2,h3⟩:=h
    exact⟨c,cr,h1,DepX.go hb hs d c h2,ArgsX.go hb hs r cr h3⟩
end
mutual
theorem DepX.toC:∀(d:DepT) (cs:List Value),DepX p w d cs→DepC w d cs
  |.mk k nm op ev args,cs,h=>by
    unfold DepX at h;unfold DepC
    obtain⟨sv,css,h1,h2,h3⟩:=h
    exact⟨sv,css,h1,h2.1,ArgsX.toC args css h3⟩
theorem ArgsX.toC:∀(l:List DepT) (css:List (List Value)),ArgsX p w l css→ArgsC w l css
  |[],css,h=>by unfold ArgsX at h;unfold ArgsC;exact h
  |d::r,css,h=>by
    unfold ArgsX at h;unfold ArgsC
    obtain⟨c,cr,h1,h2,h3⟩:=h
    exact⟨c,cr,h1,DepX.toC d c h2,ArgsX.toC r cr h3⟩
end
theorem DepX.ext (h:Below w.heap.size w w') (d:DepT) (cs:List Value) (k:DepX p w d cs):DepX p w' d cs:=DepX.go (fun b hb hp=>⟨hp,h.block b hb⟩) h.size d cs k
theorem ArgsX.nil:ArgsX p w [] []:=by unfold ArgsX;rfl
theorem ArgsX.one {d:DepT} {c:List Value} (h:DepX p w d c):ArgsX p w [d] [c]:=by
  unfold ArgsX;exact⟨c,[],rfl,h,ArgsX.nil⟩
theorem ArgsX.snoc {d:DepT} {c:List Value} (h:DepX p w d c):∀{l:List DepT} {css:List (List Value)},ArgsX p w l css→ArgsX p w (l++[d]) (css++[c])
  |[],css,h0=>by unfold ArgsX at h0;subst h0;exact ArgsX.one h
  |a::r,css,h0=>by
    unfold ArgsX at h0
    obtain⟨x,cr,rfl,h2,h3⟩:=h0
    show ArgsX p w (a::(r++[d])) (x::(cr++[c]))
    unfold ArgsX
    exact⟨x,_,rfl,h2,ArgsX.snoc h h3⟩
theorem DepX.intro {k op:Int} {nm ev:List UInt8} {args:List DepT} {sv:Value} {css:List (List Value)} (h1:RowX p w sv args.length 5 css.flatten) (h2:ArgsX p w args css):DepX p w (.mk k nm op ev args) [.int .i64 k,S nm,.int .i64 op,S ev,sv]:=by
  unfold DepX;exact⟨sv,css,rfl,h1,h2⟩
end
section
variable {rd : Nat → Option (DepT × Nat)} {ws : List (List UInt8)} {first : DepT} {n m : Nat} {args : List DepT} {kw : List UInt8} {g : Nat}
end
end
section
open Go Go.RowKit
end
section
open Go Go.RowKit
theorem Q9x (s:List UInt8):(Eu s).1.length+(Eu s).2.length≤s.length:=by
 have h:=R6 s
 rw[Q9u]
 simp only[List.length_take,List.length_drop]
 omega
end
section
open Go Go.RowKit
def Pan (ch:List PanicEntry) (T:Value→World→Prop) (U:World→Prop) (e:Ending) (w:World):Prop:=(∃v,e = .returned v∧T v w)∨(e = .panicked ch∧U w)
theorem Pan.ret {ch:List PanicEntry} {T:Value→World→Prop} {U:World→Prop} {v:Value} {w:World} (h:T v w):Pan ch T U (.returned v) w:=.inl ⟨v,rfl,h⟩
section
variable {P : Program} {n : Nat} {Q : Exit → (Nat → Value) → World → Prop} {σ : Nat → Value} {w : World} {ch : List PanicEntry} {U : World → Prop}
end
def Q76 (n:Nat) (Q:(Nat→Value)→World→Prop) (U:List PanicEntry→World→Prop):Exit→Act→World→Prop:=fun e a w =>
  (e = .normal∧∃σ,a=mk n σ∧Q σ w)∨∃c,e = .panic c∧(∃σ,a=mk n σ)∧U c w
def WZ (P:Program) (n:Nat) (ops:Array Oper) (Q:(Nat→Value)→World→Prop) (U:List PanicEntry→World→Prop) (fuel:Nat) (listed:Array Bool) (σ:Nat→Value) (w:World):Prop :=
  wpAny P .any ops (Q76 n Q U) fuel listed (mk n σ) w
section
variable {P : Program} {n : Nat} {σ : Nat → Value} {w : World}
variable {ops : Array Oper} {Q : (Nat → Value) → World → Prop} {U : List PanicEntry → World → Prop} {fuel : Nat} {listed : Array Bool}
end
attribute [irreducible] WZ
def Rep (ws:List (List UInt8)) (n:Nat) (txt:List UInt8):Prop:=Mz txt=ws.drop (n+1)∧txt.length≤8388608
theorem Q9v {s:List UInt8} (h:(Eu s).1=[]):(Eu s).2=[]:=by
  unfold Eu at h ⊢
  cases hs:Fg s with
  |nil=>rfl
  |cons c r =>
    rw[hs] at h
    simp only at h
    split at h
    · cases h
    · rename_i hc
      have:=W5 (r:=r) (R7 hs) (fun e=>hc (.inr e))
      have:=congrArg List.length h
      simp only[List.length_take,List.length_cons,List.length_nil] at this
      omega
theorem Rep.next {ws:List (List UInt8)} {n:Nat} {txt:List UInt8} (h:Rep ws n txt):(Eu txt).1=atW ws (n+1)∧Rep ws (n+1) (Eu txt).2:=by
  obtain⟨h1,h2⟩:=h
  have hl:=Q9x txt
  rw[Q5p] at h1
  split at h1
  · rename_i hn
    have hle:ws.length≤n+1:=by
      have:=congrArg List.length h1
      simp only[List.length_nil,List.length_drop] at this
      omega
    refine⟨by rw[hn,X53 hle],?_,by omega⟩
    rw[Q9v hn,Q5q,List.drop_of_length_le (by omega)]
  · have hlt : n + 1 < ws.length := by
      have:=congrArg List.length h1
      simp only[List.length_cons,List.length_drop] at this
      omega
    rw[Mm hlt] at h1
    injection h1 with e1 e2
    exact⟨by rw[e1,X52 hlt],e2,by omega⟩
end
section
open Go Go.RowKit
end
section
open Go Go.RowKit
namespace D
def mk (ds:List Deferred) (n:Nat) (σ:Nat→Value):Act:={ tmps:=Array.ofFn (n:=n) (fun i=>σ i.1),defers:=ds }
def F8 (ds:List Deferred) (n:Nat) (Q:Exit→(Nat→Value)→World→Prop):Exit→Act→World→Prop:=fun e a w=>∃σ,a=mk ds n σ∧Q e σ w
def W (P:Program) (ds:List Deferred) (n:Nat) (c:Code) (Q:Exit→(Nat→Value)→World→Prop) (σ:Nat→Value) (w:World):Prop:=c.wp P (F8 ds n Q) (mk ds n σ) w
def WO (P:Program) (ds:List Deferred) (n:Nat) (ops:Array Oper) (l:List Oper) (Q:Exit→(Nat→Value)→World→Prop) (σ:Nat→Value) (w:World):Prop :=
  wpList P ops (F8 ds n Q) l (mk ds n σ) w
theorem H3 (ds:List Deferred) (n:Nat) (σ:Nat→Value) (t:Nat):(mk ds n σ).tmps.getD t undef=sl n σ t:=by
  simp only[mk,sl,Array.getD_eq_getD_getElem?,Array.getElem?_ofFn]
  by_cases h:t < n
  · have:Nat.blt t n=true:=by simpa [Nat.blt_eq] using h
    simp[h,this]
  · have:Nat.blt t n=false:=by rw[Bool.eq_false_iff];intro h';exact h (by simpa [Nat.blt_eq] using h')
    simp[h,this]
theorem Gm (ds:List Deferred) (n:Nat) (σ:Nat→Value):(mk ds n σ).eval=ev n σ:=by
  funext x
  cases x with
  |tmp t=>exact H3 ds n σ t
  |const v=>rfl
  |global g=>rfl
  |func f=>rfl
theorem G3 (ds:List Deferred) (n:Nat) (σ:Nat→Value) (d:Option Nat) (v:Value):(mk ds n σ).put d v=mk ds n (Ci σ d v):=by
  cases d with
  |none=>rfl
  |some d =>
    simp only[mk,Act.put,Ci]
    congr 1
    apply Array.ext
    · simp
    · intro i h1 h2
      simp only[Array.getElem_ofFn,upd]
      rw[Array.getElem_setIfInBounds (by simpa using h1)]
      by_cases h:d=i
      · subst h;simp
      · have:Nat.beq i d=false:=by rw[Bool.eq_false_iff];intro h';exact h (Nat.eq_of_beq_eq_true h').symm
        simp[h,this]
theorem wanted_mk (ops:Array Oper) (ds:List Deferred) (n:Nat) (σ:Nat→Value) (o:Oper):Region.wanted o (yielded ops (mk ds n σ).tmps)=gOk ops n σ o.guard:=Proofs.YtlmloohlmlahfaaGreatDoor.wanted_mk ops n σ o
section
variable {P : Program} {ds : List Deferred} {n : Nat} {Q : Exit → (Nat → Value) → World → Prop} {σ : Nat → Value} {w : World}
theorem Hr {c:Code} {Q':Exit→(Nat→Value)→World→Prop} (h:W P ds n c Q σ w) (hq:∀e σ w,Q e σ w→Q' e σ w):W P ds n c Q' σ w :=
  wp_mono h fun _ _ _ ⟨σ',ha,q⟩=>⟨σ',ha,hq _ _ _ q⟩
theorem Ds {x y:Code} (h:W P ds n x (Pa (W P ds n y Q) Q) σ w):W P ds n (.seq x y) Q σ w:=by
  refine wp_seq (wp_mono h ?_)
  rintro e a w ⟨σ',rfl,q⟩
  cases e<;>first|exact q|exact⟨σ',rfl,q⟩
theorem Ok (h:Q .normal σ w):W P ds n .skip Q σ w:=wp_skip ⟨σ,rfl,h⟩
theorem Hq (h:Q .ret σ w):W P ds n .ret Q σ w:=wp_ret ⟨σ,rfl,h⟩
theorem Ra {c : Operand} {x y : Code} {t : Bool} (hc : ev n σ c = .bool t) (ht : t = true → W P ds n x Q σ w) (hf : t = false → W P ds n y Q σ w) :
    W P ds n (.cond c x y) Q σ w :=
  wp_cond_split (by rw[Gm];exact hc) ht hf
theorem Q4q {c:Operand} {x y:Code} (hc:ev n σ c = .bool false) (h:W P ds n y Q σ w):W P ds n (.cond c x y) Q σ w :=
  wp_cond_false (by rw[Gm];exact hc) h
theorem Q9 {c : Operand} {x y : Code} {p : Prop} [Decidable p] (hc : ev n σ c = .bool (decide p)) (ht : p → W P ds n x Q σ w) (hf : ¬ p → W P ds n y Q σ w) :
    W P ds n (.cond c x y) Q σ w :=
  Ra hc (fun h=>ht (of_decide_eq_true h)) (fun h=>hf (of_decide_eq_false h))
theorem D3 {id:Nat} {l:List Oper} (h:WO P ds n l.toArray l Q σ w):W P ds n (.region id l.toArray false) Q σ w:=wp_region_lit h
theorem C9 {ops:Array Oper} (h:Q .normal σ w):WO P ds n ops [] Q σ w:=⟨σ,rfl,h⟩
theorem Db {ops : Array Oper} {o : Oper} {rest : List Oper} {v : Value} {w' : World} (hg : gOk ops n σ o.guard = true)
    (h:(execOp (ev n σ) o).run P w = .ok (.value v) w') (next:WO P ds n ops rest Q (Ci σ o.dst v) w'):WO P ds n ops (o::rest) Q σ w:=by
  unfold WO wpList
  rw[wanted_mk,hg,if_pos rfl]
  left
  unfold Oper.wp
  rw[Gm,h,Oper.upon_value,G3]
  exact next
theorem Lb {ops : Array Oper} {o : Oper} {rest : List Oper} {w' : World} (hg : gOk ops n σ o.guard = true)
    (h:(execOp (ev n σ) o).run P w = .ok .skip w') (next:WO P ds n ops rest Q (Ci σ o.dst undef) w'):WO P ds n ops (o::rest) Q σ w:=by
  unfold WO wpList
  rw[wanted_mk,hg,if_pos rfl]
  left
  unfold Oper.wp
  rw[Gm,h,Oper.upon_skip,G3]
  exact next
theorem Fd {ops : Array Oper} {o : Oper} {rest : List Oper} (hg : gOk ops n σ o.guard = false)
    (next:WO P ds n ops rest Q (Ci σ o.dst undef) w):WO P ds n ops (o::rest) Q σ w:=by
  unfold WO wpList
  rw[wanted_mk,hg,if_neg (by simp)]
  rw[G3]
  exact next
theorem Rc {ops : Array Oper} {o : Oper} {rest : List Oper} {f : FuncId} {args : Array Value} {w' : World} {R : Ending → World → Prop} (hg : gOk ops n σ o.guard = true)
    (h:(execOp (ev n σ) o).run P w = .ok (.enter f args) w') (hc:Calls P f args w' R)
    (next:∀v w'',R (.returned v) w''→WO P ds n ops rest Q (Ci σ o.dst v) w'')
    (nop:∀ch w'',R (.panicked ch) w''→Q (.panic ch) σ w'')
    (noo:∀w'',¬R .outgrown w''):WO P ds n ops (o::rest) Q σ w:=by
  unfold WO wpList
  rw[wanted_mk,hg,if_pos rfl]
  left
  unfold Oper.wp
  rw[Gm,h,Oper.upon_enter]
  refine hc.mono ?_
  intro e w'' hR
  cases e with
  |returned v=>show wpList _ _ _ _ _ _;rw[G3];exact next v w'' hR
  |panicked ch=>exact⟨σ,rfl,nop ch w'' hR⟩
  |outgrown=>exact(noo w'' hR).elim
theorem On {ops:Array Oper} {l:List Oper} (t:Nat) {v v':Value} (h:σ t=v) (e:v=v') (k:WO P ds n ops l Q (upd σ t v') w):WO P ds n ops l Q σ w:=by
  rw[M1 (h.trans e)];exact k
theorem Bv {ops : Array Oper} {o : Oper} {rest : List Oper} {v : Value} (hg : gOk ops n σ o.guard = true) (h : H1 n σ o.op = some v)
    (next:WO P ds n ops rest Q (Ci σ o.dst v) w):WO P ds n ops (o::rest) Q σ w:=Db hg (Jm h) next
theorem Ol {c:Code} {d:Nat} {v:Value} (h:σ d=v) (k:W P ds n c Q (upd σ d v) w):W P ds n c Q σ w:=by
  rw[M1 h];exact k
theorem Gc {ops : Array Oper} {rest : List Oper} {f : FuncId} {ar : Array Operand} {ts : Array TypeId} {ty : TypeId} {ps : String} {dst : Option Tmp} {af : Array Edge} {g : Option (Nat × Bool)} {T : Value → World → Prop}
    (hg:gOk ops n σ g=true) (he:Au P f) (hc:Calls P f (ar.toList.map (ev n σ)).toArray w (Ret T))
    (next:∀v w',T v w'→WO P ds n ops rest Q (Ci σ dst v) w') :
    WO P ds n ops (⟨dst,.call { callee:=.value (.func f),args:=ar,argTypes:=ts },ty,ps,af,g⟩::rest) Q σ w:=by
  refine Rc (R:=Ret T) (w':=w) (f:=f) (args:=(ar.toList.map (ev n σ)).toArray) hg ?_ hc ?_ ?_ ?_
  · have : ar.map (ev n σ) = (ar.toList.map (ev n σ)).toArray := by
      apply Array.ext';simp
    simp only[execOp,resolve,ev,this]
    have:=he (List.map (ev n σ) ar.toList).toArray w
    simp[Deferred.ofValue,invoke,go_sem,this]
  · rintro v w'' ⟨v',hv,hT⟩;cases hv;exact next v w'' hT
  · rintro ch w'' ⟨v',hv,hT⟩;cases hv
  · rintro w'' ⟨v',hv,hT⟩;cases hv
theorem Q4u {ops : Array Oper} {rest : List Oper} {dst : Option Tmp} {x y : Operand} {t t' ty : TypeId} {ps : String} {af : Array Edge} {g : Option (Nat × Bool)} {l1 l2 : List UInt8}
    (hg:gOk ops n σ g=true) (hx:ev n σ x=S l1) (hy:ev n σ y=S l2)
    (next:WO P ds n ops rest Q (Ci σ dst ((.bool (decide (l1=l2))))) w):WO P ds n ops (⟨dst,.binOp .eql t x y t',ty,ps,af,g⟩::rest) Q σ w :=
  Db hg (Vw hx hy) next
end
section
variable {P : Program} {ds : List Deferred} {n : Nat} {Q : Exit → (Nat → Value) → World → Prop} {σ : Nat → Value} {w : World}
variable {ops : Array Oper} {rest : List Oper} {dst : Option Tmp} {ty : TypeId} {ps : String} {af : Array Edge} {g : Option (Nat × Bool)}
theorem Q4v {t : TypeId} {d : TypeDesc} {x : Operand} {a : Addr} {v : Value} (hg : gOk ops n σ g = true) (hx : ev n σ x = .pointer (some a)) (ht : P.underlying t = some d) (hd : Nl d = true) (hc : w.cell? a = some v)
    (next:WO P ds n ops rest Q (Ci σ dst (v)) w):WO P ds n ops (⟨dst,.load t x,ty,ps,af,g⟩::rest) Q σ w :=
  Db hg (Q5e hx ht hd hc) next
theorem Q4t {t : TypeId} {x y : Operand} {b o : Nat} {c : Array Value} {e : TypeId} {v : Value} (hg : gOk ops n σ g = true) (hx : ev n σ x = .pointer (some ⟨b, o, none⟩)) (hy : ev n σ y = v)
    (hs:∀w,(sizeOf t).run P w = .ok 1 w) (h1:Ly v=true) (hb:w.heap[b]? = some (.cells c e (0,0))) (ho:o < c.size)
    (next:∀w',Upd w w' b (.cells (c.setIfInBounds o v) e (0,0))→WO P ds n ops rest Q (Ci σ dst undef) w'):WO P ds n ops (⟨dst,.store t x y,ty,ps,af,g⟩::rest) Q σ w:=by
  have hcell:w.cell? ⟨b,o,none⟩=some c[o]:=U9 hb (by simp[ho])
  have hfr:w.frozen? ⟨b,o,none⟩=false:=by simp[World.frozen?,hb]
  have hcs:v.cells = #[v]:=by cases v<;>first|rfl|simp[Ly] at h1
  refine Lb (w':=w.setCell ⟨b,o,none⟩ v) hg ?_ (next _ ⟨rfl,rfl,rfl,by simp[World.setCell],?_,?_⟩)
  · cases v<;>first|(simp[Ly] at h1;done)|simp[execOp,Instr.storeAt,Instr.sureAddr,hx,hy,storeVar,hs,Value.cells,storeCells,store,Sem.run,hcell,hfr,Addr.add,go_sem]
  · have hlt:=L9 hb
    have:=(Array.getElem?_eq_some_iff.1 hb).2
    simp[World.setCell,Array.getElem?_modify,hb]
  · intro j hj
    simp[World.setCell,Array.getElem?_modify,Ne.symm hj]
end
end D
end
section
open Go Go.RowKit
end
section
open Go Go.RowKit
end
section
open Go Go.RowKit
namespace Sv
inductive AV where
  |bool (b:Bool)
  |int (k:IntKind) (n:Int)
  |str (l:List UInt8)
  |ptr (b off:Nat)
  |nilp
  |sl (b off len cap:Nat) (op:Bool)
  |nils
  |sle
  |map (b:Nat)
  |nilm
  |fn (f:Nat) (first cap:List AV)
  |nilf
  |ifc (t:Nat) (v:AV)
  |nili
  |agg (l:List AV)
  |tup (l:List AV)
  |raw (v:Value)
  |row (sz n:Nat) (g:Nat→AV)
  |fp (a:AV)
  |own (b:Nat)
  |cond (q:Bool) (a:AV)
  |op (b o:Nat)
  |smap (z:Value) (g:List UInt8→AV)
  |clo (a:AV)
structure Phi where
  m:Nat→Option (Nat × Nat)
  s:Nat→Option Value
  f:Nat→Option Obj
instance:CoeFun Phi (fun _=>Nat→Option (Nat × Nat)):=⟨Phi.m⟩
structure Phi.le (φ φ':Phi):Prop where
  m:∀b x,φ b=some x→φ' b=some x
  s:∀b x,φ.s b=some x→φ'.s b=some x
  f:∀b x,φ.f b=some x→φ'.f b=some x
theorem Phi.le_refl (φ:Phi):φ.le φ:=⟨fun _ _ h=>h,fun _ _ h=>h,fun _ _ h=>h⟩
theorem Phi.le_trans {a b c:Phi} (h:a.le b) (k:b.le c):a.le c:=⟨fun x y e=>k.m x y (h.m x y e),fun x y e=>k.s x y (h.s x y e),fun x y e=>k.f x y (h.f x y e)⟩
def LieAt (f:Nat→Option Obj) (b o:Nat) (us:List Value):Prop:=∃cs e fr,f b=some (.cells cs e fr)∧∀j u,us[j]? = some u→cs[o+j]? = some u∧u.oneCell'=true
theorem LieAt.mono {φ φ':Phi} (h:φ.le φ') {b o:Nat} {us:List Value} (k:LieAt φ.f b o us):LieAt φ'.f b o us:=by
  obtain⟨cs,e,fr,h1,h2⟩:=k;exact⟨cs,e,fr,h.f _ _ h1,h2⟩
def RowAt (f:Nat→Option Obj) (sz n:Nat) (u:Nat→Value) (v:Value):Prop :=
  (n=0∧(v = .slice none 0 0∨∃a c,v = .slice (some a) 0 c))∨∃b o c,v = .slice (some ⟨b,o,none⟩) n c∧n≤c∧∀i,i < n→(u i).cells.size=sz∧LieAt f b (o+i*sz) (u i).cells.toList
theorem RowAt.mono {φ φ':Phi} (h:φ.le φ') {sz n:Nat} {u:Nat→Value} {v:Value} (k:RowAt φ.f sz n u v):RowAt φ'.f sz n u v:=by
  rcases k with k|⟨b,o,c,rfl,k0,k⟩
  · exact .inl k
  · exact .inr ⟨b,o,c,rfl,k0,fun i hi=>⟨(k i hi).1,(k i hi).2.mono h⟩⟩
def Phi.fz (φ:Phi):Phi:=⟨fun _=>none,fun _=>none,φ.f⟩
theorem Phi.fz_le {φ φ':Phi} (h:φ.le φ'):φ.fz.le φ'.fz:=⟨fun _ _ e=>(by cases e),fun _ _ e=>(by cases e),h.f⟩
theorem Phi.le_fz (φ:Phi):φ.fz.le φ:=⟨fun _ _ e=>(by cases e),fun _ _ e=>(by cases e),fun _ _ e=>e⟩
def Ny:AV→Bool
  |.bool _=>true
  |_=>false
mutual
def VR:Phi→AV→Value→Prop
  |φ,.bool b,v=>v = .bool b
  |φ,.int k n,v=>v = .int k n
  |φ,.str l,v=>v = .string ⟨l.toArray⟩
  |φ,.ptr b o,v=>∃x κ,φ b=some (x,κ)∧v = .pointer (some ⟨x,o,none⟩)
  |φ,.nilp,v=>v = .pointer none
  |φ,.sl b o len cap op,v=>∃x κ,φ b=some (x,κ)∧((op=true∧cap+len≤κ∧v = .slice (some ⟨x,o,none⟩) len (κ-cap))∨(op=false∧v = .slice (some ⟨x,o,none⟩) len cap))
  |φ,.nils,v=>v = .slice none 0 0
  |φ,.sle,v=>∃a c,v = .slice (some a) 0 c
  |φ,.map b,v=>∃x κ,φ b=some (x,κ)∧v = .map (some x)
  |φ,.nilm,v=>v = .map none
  |φ,.fn f first cap,v=>∃vf vc,VRl φ first vf∧VRl φ cap vc∧v = .func (.func f) vf.toArray vc.toArray
  |φ,.nilf,v=>v = .nilFunc
  |φ,.ifc t a,v=>∃u,VR φ a u∧v = .iface t u
  |φ,.nili,v=>v = .nilIface
  |φ,.agg l,v=>∃vs,VRl φ l vs∧v = .agg vs.toArray
  |φ,.tup l,v=>∃vs,VRl φ l vs∧v = .tuple vs.toArray
  |φ,.raw u,v=>v=u
  |φ,.row sz n g,v=>∃u:Nat→Value,(∀i,i < n→VR φ.fz (g i) (u i))∧RowAt φ.f sz n u v
  |φ,.fp a,v=>∃b o u,v = .pointer (some ⟨b,o,none⟩)∧VR φ.fz a u∧LieAt φ.f b o u.cells.toList
  |φ,.own b,v=>φ.s b=some v∧∃a n c,v = .slice a n c
  |φ,.cond q a,v=>(q=true→VR φ a v)∧(Ny a=true→q=false→v=undef)
  |φ,.op b o,v=>∃hd k,φ.s b=some hd∧hd.ownBlock=some k∧v = .pointer (some ⟨k,o,none⟩)
  |φ,.clo a,v=>VR φ.fz a v∧∃g vc,v = .func (.func g) #[] vc
  |φ,.smap z g,v=>∃x es clk m,v = .map (some x)∧φ.f x=some (.map es clk)∧es.toList.map (fun e=>(e.key,e.val))=D6 S id m∧∀s,(∀u,Bx m s=some u→VR φ.fz (g s) u)∧(Bx m s=none→VR φ.fz (g s) z)
def VRl:Phi→List AV→List Value→Prop
  |φ,[],vs=>vs=[]
  |φ,a::l,vs=>∃v vs',vs=v::vs'∧VR φ a v∧VRl φ l vs'
end
mutual
theorem VR.mono':∀{a:AV} {φ φ':Phi} {v:Value},φ.le φ'→VR φ a v→VR φ' a v
  |.bool _,φ,φ',_,h,k=>k
  |.int _ _,φ,φ',_,h,k=>k
  |.str _,φ,φ',_,h,k=>k
  |.ptr _ _,φ,φ',_,h,k=>by
    simp only[VR] at k ⊢
    obtain⟨x,κ,e,r⟩:=k;exact⟨x,κ,h.m _ _ e,r⟩
  |.nilp,φ,φ',_,h,k=>k
  |.sl _ _ _ _ _,φ,φ',_,h,k=>by
    simp only[VR] at k ⊢
    obtain⟨x,κ,e,r⟩:=k;exact⟨x,κ,h.m _ _ e,r⟩
  |.nils,φ,φ',_,h,k=>k
  |.sle,φ,φ',_,h,k=>k
  |.map _,φ,φ',_,h,k=>by
    simp only[VR] at k ⊢
    obtain⟨x,κ,e,r⟩:=k;exact⟨x,κ,h.m _ _ e,r⟩
  |.nilm,φ,φ',_,h,k=>k
  |.fn _ _ _,φ,φ',_,h,k=>by
    simp only[VR] at k ⊢
    obtain⟨a,b,e1,e2,r⟩:=k;exact⟨a,b,VRl.mono' h e1,VRl.mono' h e2,r⟩
  |.nilf,φ,φ',_,h,k=>k
  |.ifc _ _,φ,φ',_,h,k=>by
    simp only[VR] at k ⊢
    obtain⟨u,e,r⟩:=k;exact⟨u,VR.mono' h e,r⟩
  |.nili,φ,φ',_,h,k=>k
  |.agg _,φ,φ',_,h,k=>by
    simp only[VR] at k ⊢
    obtain⟨u,e,r⟩:=k;exact⟨u,VRl.mono' h e,r⟩
  |.tup _,φ,φ',_,h,k=>by
    simp only[VR] at k ⊢
    obtain⟨u,e,r⟩:=k;exact⟨u,VRl.mono' h e,r⟩
  |.raw _,φ,φ',_,h,k=>k
  |.row sz n g,φ,φ',_,h,k=>by
    simp only[VR] at k ⊢
    obtain⟨u,k1,k2⟩:=k;exact⟨u,fun i hi=>VR.mono' (Phi.fz_le h) (k1 i hi),k2.mono h⟩
  |.fp a,φ,φ',_,h,k=>by
    simp only[VR] at k ⊢
    obtain⟨b,o,u,e,k1,k2⟩:=k;exact⟨b,o,u,e,VR.mono' (Phi.fz_le h) k1,k2.mono h⟩
  |.own b,φ,φ',_,h,k=>by
    simp only[VR] at k ⊢
    exact⟨h.s _ _ k.1,k.2⟩
  |.cond q a,φ,φ',_,h,k=>by
    simp only[VR] at k ⊢
    exact⟨fun hq=>VR.mono' h (k.1 hq),k.2⟩
  |.op b o,φ,φ',_,h,k=>by
    simp only[VR] at k ⊢
    obtain⟨hd,x,e,r⟩:=k;exact⟨hd,x,h.s _ _ e,r⟩
  |.clo a,φ,φ',_,h,k=>by
    simp only[VR] at k ⊢
    exact⟨VR.mono' (Phi.fz_le h) k.1,k.2⟩
  |.smap z g,φ,φ',_,h,k=>by
    simp only[VR] at k ⊢
    obtain⟨x,es,clk,m,e,e1,e2,e3⟩:=k
    exact⟨x,es,clk,m,e,h.f _ _ e1,e2,fun s=>⟨fun u hu=>VR.mono' (Phi.fz_le h) ((e3 s).1 u hu),fun hu=>VR.mono' (Phi.fz_le h) ((e3 s).2 hu)⟩⟩
theorem VRl.mono':∀{l:List AV} {φ φ':Phi} {vs:List Value},φ.le φ'→VRl φ l vs→VRl φ' l vs
  |[],φ,φ',_,h,k=>k
  |_::_,φ,φ',_,h,k=>by
    simp only[VRl] at k ⊢
    obtain⟨v,vs',e,e1,e2⟩:=k;exact⟨v,vs',e,VR.mono' h e1,VRl.mono' h e2⟩
end
theorem Jb {φ:Phi} {a:AV}:VR φ (.cond false a) undef:=by unfold VR;exact⟨fun e=>(by cases e),fun _ _=>rfl⟩
theorem Lc {φ:Phi} {a:AV} {v:Value} (h:VR φ a v):VR φ (.cond true a) v:=by unfold VR;exact⟨fun _=>h,fun _ e=>(by cases e)⟩
theorem VR.condT {φ:Phi} {q:Bool} {a:AV} {v:Value} (h:VR φ (.cond q a) v) (hq:q=true):VR φ a v:=by unfold VR at h;exact h.1 hq
theorem VR.mono {φ φ':Phi} (h:φ.le φ') {a:AV} {v:Value} (k:VR φ a v):VR φ' a v:=VR.mono' h k
theorem VRl.mono {φ φ':Phi} (h:φ.le φ') {l:List AV} {vs:List Value} (k:VRl φ l vs):VRl φ' l vs:=VRl.mono' h k
section
variable {φ : Phi}
theorem VR.ofBool (q:Bool):VR φ (.bool q) (.bool q):=by simp[VR]
theorem VR.ofStr (l:List UInt8):VR φ (.str l) (.string ⟨l.toArray⟩):=by simp[VR]
theorem VRl.nil:VRl φ [] []:=by simp[VRl]
theorem VRl.cons {a:AV} {v:Value} {l:List AV} {vs:List Value} (h:VR φ a v) (k:VRl φ l vs):VRl φ (a::l) (v::vs):=by
  simp only[VRl];exact⟨v,vs,rfl,h,k⟩
theorem VRl.cons_inv {a:AV} {l:List AV} {vs:List Value} (h:VRl φ (a::l) vs):∃v vs',vs=v::vs'∧VR φ a v∧VRl φ l vs':=by
  simpa only [VRl] using h
theorem VRl.nil_inv {vs:List Value} (h:VRl φ [] vs):vs=[]:=by simpa only [VRl] using h
theorem VRl.length:∀{l:List AV} {vs:List Value},VRl φ l vs→vs.length=l.length
  |[],_,h=>by rw[h.nil_inv];rfl
  |_::_,_,h=>by obtain⟨v,vs',rfl,_,k⟩:=h.cons_inv;simp[VRl.length k]
theorem VRl.append:∀{l l':List AV} {vs vs':List Value},VRl φ l vs→VRl φ l' vs'→VRl φ (l++l') (vs++vs')
  |[],_,_,_,h,k=>by rw[h.nil_inv];exact k
  |_::_,_,_,_,h,k=>by obtain⟨v,vs',rfl,h1,h2⟩:=h.cons_inv;exact .cons h1 (VRl.append h2 k)
theorem VRl.take:∀{l:List AV} {vs:List Value} (n:Nat),VRl φ l vs→VRl φ (l.take n) (vs.take n)
  |_,_,0,_=>by simp only[List.take_zero];exact .nil
  |[],_,n+1,h=>by rw[h.nil_inv];simp only[List.take_nil];exact .nil
  |_::_,_,n+1,h=>by obtain⟨v,vs',rfl,h1,h2⟩:=h.cons_inv;simp only[List.take_succ_cons];exact .cons h1 (VRl.take n h2)
theorem VRl.drop:∀{l:List AV} {vs:List Value} (n:Nat),VRl φ l vs→VRl φ (l.drop n) (vs.drop n)
  |_,_,0,h=>by simpa only [List.drop_zero] using h
  |[],_,n+1,h=>by rw[h.nil_inv];simp only[List.drop_nil];exact .nil
  |_::_,_,n+1,h=>by obtain⟨v,vs',rfl,h1,h2⟩:=h.cons_inv;simp only[List.drop_succ_cons];exact VRl.drop n h2
theorem VRl.get:∀{l:List AV} {vs:List Value} {i:Nat} {a:AV},VRl φ l vs→l[i]? = some a→∃v,vs[i]? = some v∧VR φ a v
  |[],_,_,_,_,e=>by simp at e
  |_::_,_,0,_,h,e=>by obtain⟨v,vs',rfl,h1,_⟩:=h.cons_inv;simp at e;subst e;exact⟨v,by simp,h1⟩
  |_::_,_,i+1,_,h,e=>by obtain⟨v,vs',rfl,_,h2⟩:=h.cons_inv;simp only[List.getElem?_cons_succ] at e ⊢;exact VRl.get h2 e
theorem VRl.single {a:AV} {v:Value} (h:VR φ a v):VRl φ [a] [v]:=.cons h .nil
end
noncomputable def one:AV→Bool
  |.agg _=>false
  |.tup _=>false
  |.raw (.agg _)=>false
  |.raw (.tuple _)=>false
  |.cond _ _=>false
  |_=>true
noncomputable def ones:List AV→Bool
  |[]=>true
  |a::l=>one a&&ones l
theorem VR.one {φ:Phi}:∀{a:AV} {v:Value},VR φ a v→Sv.one a=true→v.oneCell'=true∧v.cells = #[v]:=by
  intro a v h h1
  cases a<;>simp only[VR] at h<;>(try simp only[Sv.one,Bool.false_eq_true] at h1)
  case raw u =>
    subst h
    cases v<;>first|exact⟨rfl,rfl⟩|simp[Sv.one] at h1
  case ptr=>obtain⟨x,κ,_,rfl⟩:=h;exact⟨rfl,rfl⟩
  case row=>obtain⟨u,_,⟨_,rfl|⟨a,c,rfl⟩⟩|⟨b,o,c,rfl,_⟩⟩:=h<;>exact⟨rfl,rfl⟩
  case fp=>obtain⟨b,o,u,rfl,_⟩:=h;exact⟨rfl,rfl⟩
  case own=>obtain⟨_,a,n,c,rfl⟩:=h;exact⟨rfl,rfl⟩
  case op=>obtain⟨_,_,_,_,rfl⟩:=h;exact⟨rfl,rfl⟩
  case smap=>obtain⟨_,_,_,_,rfl,_⟩:=h;exact⟨rfl,rfl⟩
  case clo=>obtain⟨_,_,_,rfl⟩:=h;exact⟨rfl,rfl⟩
  case sl=>obtain⟨x,κ,_,⟨_,_,rfl⟩|⟨_,rfl⟩⟩:=h<;>exact⟨rfl,rfl⟩
  case map=>obtain⟨x,κ,_,rfl⟩:=h;exact⟨rfl,rfl⟩
  case sle=>obtain⟨x,κ,rfl⟩:=h;exact⟨rfl,rfl⟩
  case fn=>obtain⟨x,κ,_,_,rfl⟩:=h;exact⟨rfl,rfl⟩
  case ifc=>obtain⟨x,_,rfl⟩:=h;exact⟨rfl,rfl⟩
  all_goals (subst h;exact⟨rfl,rfl⟩)
theorem VRl.ones {φ:Phi}:∀{l:List AV} {vs:List Value},VRl φ l vs→Sv.ones l=true→∀v∈vs,v.oneCell'=true
  |[],_,h,_=>by rw[h.nil_inv];simp
  |a::l,_,h,k=>by
    obtain⟨v,vs',rfl,h1,h2⟩:=h.cons_inv
    simp only[Sv.ones,Bool.and_eq_true] at k
    intro u hu
    rcases List.mem_cons.1 hu with rfl|hu
    · exact(h1.one k.1).1
    · exact VRl.ones h2 k.2 u hu
noncomputable def cellsOf:AV→List AV
  |.agg l=>l
  |a=>[a]
noncomputable def Eo:AV→Bool
  |.raw (.agg _)=>true
  |.cond _ _=>true
  |_=>false
theorem VR.cells {φ:Phi} {a:AV} {v:Value} (h:VR φ a v) (hr:Eo a=false):VRl φ (cellsOf a) v.cells.toList:=by
  by_cases h1:Sv.one a=true
  · have:cellsOf a=[a]:=by cases a<;>first|rfl|simp[Sv.one] at h1
    rw[this,(h.one h1).2];exact .single h
  · cases a<;>simp only[Sv.one,not_true_eq_false] at h1
    case agg l=>simp only[VR] at h;obtain⟨vs,h,rfl⟩:=h;simpa [cellsOf,Value.cells] using h
    case tup l =>
      have h':=h
      simp only[VR] at h;obtain⟨vs,_,rfl⟩:=h;exact .single h'
    case raw u =>
      have h':=h
      simp only[VR] at h;subst h
      cases v<;>simp[Sv.one,Eo] at h1 hr
      exact .single h'
    case cond=>simp[Eo] at hr
mutual
noncomputable def frz:AV→Bool
  |.ptr _ _=>false
  |.sl _ _ _ _ _=>false
  |.map _=>false
  |.own _=>false
  |.op _ _=>false
  |.fn _ first cap=>frzl first&&frzl cap
  |.ifc _ a=>frz a
  |.agg l=>frzl l
  |.tup l=>frzl l
  |.cond _ a=>frz a
  |_=>true
noncomputable def frzl:List AV→Bool
  |[]=>true
  |a::l=>frz a&&frzl l
end
mutual
theorem VR.fz:∀{a:AV} {φ:Phi} {v:Value},VR φ a v→frz a=true→VR φ.fz a v
  |.bool _,_,_,k,_=>k
  |.int _ _,_,_,k,_=>k
  |.str _,_,_,k,_=>k
  |.ptr _ _,_,_,k,h=>by cases h
  |.nilp,_,_,k,_=>k
  |.sl _ _ _ _ _,_,_,k,h=>by cases h
  |.nils,_,_,k,_=>k
  |.sle,_,_,k,_=>k
  |.map _,_,_,k,h=>by cases h
  |.nilm,_,_,k,_=>k
  |.fn _ _ _,φ,_,k,h=>by
    simp only[VR] at k ⊢
    simp only[frz,Bool.and_eq_true] at h
    obtain⟨a,b,e1,e2,r⟩:=k;exact⟨a,b,VRl.fz e1 h.1,VRl.fz e2 h.2,r⟩
  |.nilf,_,_,k,_=>k
  |.ifc _ _,φ,_,k,h=>by
    simp only[VR] at k ⊢
    simp only[frz] at h
    obtain⟨u,e,r⟩:=k;exact⟨u,VR.fz e h,r⟩
  |.nili,_,_,k,_=>k
  |.agg _,φ,_,k,h=>by
    simp only[VR] at k ⊢
    simp only[frz] at h
    obtain⟨u,e,r⟩:=k;exact⟨u,VRl.fz e h,r⟩
  |.tup _,φ,_,k,h=>by
    simp only[VR] at k ⊢
    simp only[frz] at h
    obtain⟨u,e,r⟩:=k;exact⟨u,VRl.fz e h,r⟩
  |.raw _,_,_,k,_=>k
  |.row _ _ _,φ,_,k,_=>by simp only[VR] at k ⊢;exact k
  |.fp _,φ,_,k,_=>by simp only[VR] at k ⊢;exact k
  |.own _,_,_,k,h=>by cases h
  |.op _ _,_,_,k,h=>by cases h
  |.smap _ _,φ,_,k,_=>by simp only[VR] at k ⊢;exact k
  |.clo _,φ,_,k,_=>by simp only[VR] at k ⊢;exact k
  |.cond _ _,φ,_,k,h=>by
    simp only[VR] at k ⊢
    simp only[frz] at h
    exact⟨fun q=>VR.fz (k.1 q) h,k.2⟩
theorem VRl.fz:∀{l:List AV} {φ:Phi} {vs:List Value},VRl φ l vs→frzl l=true→VRl φ.fz l vs
  |[],_,_,k,_=>k
  |_::_,φ,_,k,h=>by
    simp only[VRl] at k ⊢
    simp only[frzl,Bool.and_eq_true] at h
    obtain⟨v,vs',e,e1,e2⟩:=k;exact⟨v,vs',e,VR.fz e1 h.1,VRl.fz e2 h.2⟩
end
def Phi.cut (φ:Phi) (n:Nat):Phi:=⟨fun b=>if b < n then φ b else none,fun b=>if b < n then φ.s b else none,φ.f⟩
mutual
noncomputable def low (n:Nat):AV→Bool
  |.ptr b _=>Nat.ble (b+1) n
  |.sl b _ _ _ _=>Nat.ble (b+1) n
  |.map b=>Nat.ble (b+1) n
  |.own b=>Nat.ble (b+1) n
  |.op b _=>Nat.ble (b+1) n
  |.fn _ first cap=>lowl n first&&lowl n cap
  |.ifc _ a=>low n a
  |.agg l=>lowl n l
  |.tup l=>lowl n l
  |.cond _ a=>low n a
  |_=>true
noncomputable def lowl (n:Nat):List AV→Bool
  |[]=>true
  |a::l=>low n a&&lowl n l
end
theorem Phi.cut_m {φ:Phi} {n b:Nat} (h:Nat.ble (b+1) n=true):(φ.cut n) b=φ b:=if_pos (Nat.le_of_ble_eq_true h)
theorem Phi.cut_s {φ:Phi} {n b:Nat} (h:Nat.ble (b+1) n=true):(φ.cut n).s b=φ.s b:=if_pos (Nat.le_of_ble_eq_true h)
mutual
theorem VR.cut {n:Nat}:∀{a:AV} {φ:Phi} {v:Value},VR φ a v→low n a=true→VR (φ.cut n) a v
  |.bool _,_,_,k,_=>k
  |.int _ _,_,_,k,_=>k
  |.str _,_,_,k,_=>k
  |.ptr _ _,_,_,k,h=>by simp only[VR] at k ⊢;rw[Phi.cut_m h];exact k
  |.nilp,_,_,k,_=>k
  |.sl _ _ _ _ _,_,_,k,h=>by simp only[VR] at k ⊢;rw[Phi.cut_m h];exact k
  |.nils,_,_,k,_=>k
  |.sle,_,_,k,_=>k
  |.map _,_,_,k,h=>by simp only[VR] at k ⊢;rw[Phi.cut_m h];exact k
  |.nilm,_,_,k,_=>k
  |.fn _ _ _,φ,_,k,h=>by
    simp only[VR] at k ⊢
    simp only[low,Bool.and_eq_true] at h
    obtain⟨a,b,e1,e2,r⟩:=k;exact⟨a,b,VRl.cut e1 h.1,VRl.cut e2 h.2,r⟩
  |.nilf,_,_,k,_=>k
  |.ifc _ _,φ,_,k,h=>by
    simp only[VR] at k ⊢
    simp only[low] at h
    obtain⟨u,e,r⟩:=k;exact⟨u,VR.cut e h,r⟩
  |.nili,_,_,k,_=>k
  |.agg _,φ,_,k,h=>by
    simp only[VR] at k ⊢
    simp only[low] at h
    obtain⟨u,e,r⟩:=k;exact⟨u,VRl.cut e h,r⟩
  |.tup _,φ,_,k,h=>by
    simp only[VR] at k ⊢
    simp only[low] at h
    obtain⟨u,e,r⟩:=k;exact⟨u,VRl.cut e h,r⟩
  |.raw _,_,_,k,_=>k
  |.row _ _ _,φ,_,k,_=>by simp only[VR] at k ⊢;exact k
  |.fp _,φ,_,k,_=>by simp only[VR] at k ⊢;exact k
  |.own _,_,_,k,h=>by simp only[VR] at k ⊢;rw[Phi.cut_s h];exact k
  |.op _ _,_,_,k,h=>by simp only[VR] at k ⊢;rw[Phi.cut_s h];exact k
  |.smap _ _,φ,_,k,_=>by simp only[VR] at k ⊢;exact k
  |.clo _,φ,_,k,_=>by simp only[VR] at k ⊢;exact k
  |.cond _ _,φ,_,k,h=>by
    simp only[VR] at k ⊢
    simp only[low] at h
    exact⟨fun q=>VR.cut (k.1 q) h,k.2⟩
theorem VRl.cut {n:Nat}:∀{l:List AV} {φ:Phi} {vs:List Value},VRl φ l vs→lowl n l=true→VRl (φ.cut n) l vs
  |[],_,_,k,_=>k
  |_::_,φ,_,k,h=>by
    simp only[VRl] at k ⊢
    simp only[lowl,Bool.and_eq_true] at h
    obtain⟨v,vs',e,e1,e2⟩:=k;exact⟨v,vs',e,VR.cut e1 h.1,VRl.cut e2 h.2⟩
end
theorem Hp {a b:Nat} (h:a≠b):Nat.beq a b=false:=by rw[Bool.eq_false_iff];intro h';exact h (Nat.eq_of_beq_eq_true h')
theorem Du (a b:Nat):(Nat.beq a b=true∧a=b)∨(Nat.beq a b=false∧a≠b):=by
  by_cases h:a=b
  · exact .inl ⟨by rw[h];exact Nat.beq_refl b,h⟩
  · exact .inr ⟨Hp h,h⟩
end Sv
end
section
open Go Go.RowKit
namespace Sv
noncomputable def ofS:Value→Option AV
  |.bool b=>some (.bool b)
  |.int k n=>some (.int k n)
  |.string s=>some (.str s.data.toList)
  |.float k b=>some (.raw (.float k b))
  |.complex k a b=>some (.raw (.complex k a b))
  |.pointer none=>some .nilp
  |.slice none 0 0=>some .nils
  |.map none=>some .nilm
  |.nilFunc=>some .nilf
  |.nilIface=>some .nili
  |_=>none
noncomputable def Pw:List Value→Option (List AV)
  |[]=>some []
  |v::l=>match ofS v with
    |some a=>match Pw l with
      |some b=>some (a::b)
      |none=>none
    |none=>none
noncomputable def ofV:Value→Option AV
  |.agg cs=>match Pw cs.toList with
    |some l=>some (.agg l)
    |none=>none
  |.tuple cs=>match cs.toList with
    |[]=>some (.tup [])
    |_=>none
  |v=>ofS v
theorem Y2 {φ:Phi} {v:Value} {a:AV} (h:ofS v=some a):VR φ a v:=by
  unfold ofS at h
  split at h<;>first|(cases h;simp[VR];done)|cases h
theorem Y1 {φ:Phi}:∀{l:List Value} {avs:List AV},Pw l=some avs→VRl φ avs l
  |[],_,h=>by cases h;exact .nil
  |v::l,_,h=>by
    unfold Pw at h
    split at h
    · rename_i a ha
      split at h
      · rename_i b hb;cases h;exact .cons (Y2 ha) (Y1 hb)
      · cases h
    · cases h
theorem Y0 {φ:Phi} {v:Value} {a:AV} (h:ofV v=some a):VR φ a v:=by
  unfold ofV at h
  split at h
  · rename_i cs
    split at h
    · rename_i l hl;cases h;simp only[VR];exact⟨cs.toList,Y1 hl,by simp⟩
    · cases h
  · rename_i cs
    split at h
    · rename_i hl;cases h;simp only[VR];refine⟨[],.nil,?_⟩
      have:cs = #[]:=by apply Array.ext';simpa using hl
      rw[this]
    · cases h
  · exact Y2 h
noncomputable def pr {α:Type} (P:Program):Sem α→Option α
  |.pure a=>some a
  |.program k=>pr P (k P)
  |.mark _ k=>pr P k
  |_=>none
theorem Ss {α:Type} {P:Program}:∀{s:Sem α} {a:α},pr P s=some a→∀w,s.run P w = .ok a w:=by
  intro s
  induction s with
  |pure a=>intro b h w;simp only[pr,Option.some.injEq] at h;subst h;rfl
  |program k ih=>intro b h w;simp only[pr] at h;exact ih P h w
  |mark m k ih=>intro b h w;simp only[pr] at h;exact ih h w
  |_=>intro b h;simp[pr] at h
noncomputable def tsz (P:Program) (t:Nat):Option Nat:=match P.info? t with
  |some i=>some i.size
  |none=>none
theorem C3 {P:Program} {t n:Nat} (h:tsz P t=some n) (w:World):(sizeOf t).run P w = .ok n w:=by
  unfold tsz at h
  split at h
  · rename_i i hi;cases h;simp[sizeOf,typeInfo,hi,go_sem]
  · cases h
noncomputable def Ha (P:Program) (t:Nat):Option Bool:=match P.underlying t with
  |some (.struct _)=>some true
  |some (.array _ _)=>some true
  |some _=>some false
  |none=>none
theorem J1 {P:Program} {t:Nat} {b:Bool} (h:Ha P t=some b) (w:World):(isAgg t).run P w = .ok b w:=by
  unfold Ha at h
  split at h
  · rename_i d hd;cases h;simp[isAgg,run_underlying hd,go_sem]
  · rename_i d hd;cases h;simp[isAgg,run_underlying hd,go_sem]
  · rename_i d h1 h2 hd
    cases h
    cases d<;>first|(simp[isAgg,run_underlying hd,go_sem];done)|exact(h1 _ rfl).elim|exact(h2 _ _ rfl).elim
  · cases h
noncomputable def Ij (P:Program) (t:Nat):Option AV:=match P.info? t with
  |some i=>match i.zero with
    |some z=>ofV z
    |none=>none
  |none=>none
theorem J9 {P:Program} {t:Nat} {a:AV} (h:Ij P t=some a) {φ:Phi}:∃v,(∀w,(zeroValue t).run P w = .ok v w)∧VR φ a v:=by
  unfold Ij at h
  split at h
  · rename_i i hi
    split at h
    · rename_i z hz;exact⟨z,fun w=>by simp[zeroValue,typeInfo,hi,hz,go_sem],Y0 h⟩
    · cases h
  · cases h
noncomputable def Pp (P:Program) (t:Nat) (l:List AV) (off:Nat):Option AV:=match Ha P t with
  |some true=>match tsz P t with
    |some n=>some (.agg ((l.drop off).take n))
    |none=>none
  |some false=>l[off]?
  |none=>none
theorem X5 {P:Program} {t off:Nat} {l:List AV} {a:AV} {φ:Phi} {vs:List Value} (h:Pp P t l off=some a) (hl:VRl φ l vs):∃v,(∀w,(part t vs.toArray off).run P w = .ok v w)∧VR φ a v:=by
  unfold Pp at h
  split at h
  · rename_i ha
    split at h
    · rename_i n hn
      cases h
      refine⟨.agg ((vs.drop off).take n).toArray,fun w=>?_,by simp only[VR];exact⟨_,(hl.drop off).take n,rfl⟩⟩
      have:vs.toArray.extract off (off+n)=((vs.drop off).take n).toArray:=by
        apply Array.ext';simp[List.take_drop]
      simp[part,J1 ha,C3 hn,this,go_sem]
    · cases h
  · rename_i ha
    obtain⟨v,hv,hr⟩:=hl.get h
    exact⟨v,fun w=>by simp[part,J1 ha,hv,go_sem],hr⟩
  · cases h
noncomputable def putCells:List AV→Nat→List AV→List AV
  |l,_,[]=>l
  |l,o,a::r=>putCells (l.set o a) (o+1) r
noncomputable def Mh (place:Nat→Option (Nat × Nat)) (cells:List AV):List (Nat × AV)→Option (List AV)
  |[]=>some cells
  |(i,a)::rest=>match place i with
    |none=>none
    |some (off,size) =>
      bif Nat.beq (cellsOf a).length size&&Nat.ble (off+(cellsOf a).length) cells.length&&!Eo a then Mh place (putCells cells off (cellsOf a)) rest else none
theorem VRl.set {φ:Phi}:∀{l:List AV} {vs:List Value} (i:Nat) {a:AV} {v:Value},VRl φ l vs→VR φ a v→VRl φ (l.set i a) (vs.set i v)
  |[],_,_,_,_,h,_=>by rw[h.nil_inv];simp only[List.set_nil];exact .nil
  |_::_,_,0,_,_,h,k=>by obtain⟨v,vs',rfl,h1,h2⟩:=h.cons_inv;simp only[List.set_cons_zero];exact .cons k h2
  |_::_,_,i+1,_,_,h,k=>by obtain⟨v,vs',rfl,h1,h2⟩:=h.cons_inv;simp only[List.set_cons_succ];exact .cons h1 (VRl.set i h2 k)
theorem Q07 (φ : Phi) : ∀ (avs : List AV) (us : List Value) (l : List AV) (cs : Array Value) (o j : Nat), VRl φ avs us → VRl φ l cs.toList →
    VRl φ (putCells l (o+j) avs) ((us.zipIdx j).foldl (fun cs (c,j)=>cs.setIfInBounds (o+j) c) cs).toList
  |[],us,l,cs,o,j,h,k=>by rw[h.nil_inv];simpa [putCells] using k
  |a::avs,_,l,cs,o,j,h,k=>by
    obtain⟨v,us,rfl,h1,h2⟩:=h.cons_inv
    simp only[putCells,List.zipIdx_cons,List.foldl_cons]
    rw[Nat.add_assoc]
    refine Q07 φ avs us _ _ o (j+1) h2 ?_
    rw[Array.toList_setIfInBounds]
    exact k.set _ h1
def NR (φ:Phi):List (Nat × AV)→List (Nat × Value)→Prop
  |[],l=>l=[]
  |(i,a)::r,l=>∃v l',l=(i,v)::l'∧VR φ a v∧NR φ r l'
theorem Qi {φ : Phi} (place : Nat → Option (Nat × Nat)) : ∀ (ps : List (Nat × AV)) (qs : List (Nat × Value)) (l : List AV) (cs : Array Value) (r : List AV), Mh place l ps = some r → NR φ ps qs → VRl φ l cs.toList →
    ∃rs:Array Value,Instr.fill place cs qs=some rs∧VRl φ r rs.toList
  |[],qs,l,cs,r,h,k,hl=>by
    simp only[NR] at k;subst k;cases h;exact⟨cs,rfl,hl⟩
  |(i,a)::ps,qs,l,cs,r,h,k,hl=>by
    simp only[NR] at k
    obtain⟨v,l',rfl,h1,h2⟩:=k
    unfold Mh at h
    unfold Instr.fill
    cases hp:place i with
    |none=>rw[hp] at h;cases h
    |some x =>
      obtain⟨off,size⟩:=x
      rw[hp] at h
      simp only at h ⊢
      cases hb:(Nat.beq (cellsOf a).length size&&Nat.ble (off+(cellsOf a).length) l.length&&!Eo a) with
      |false=>rw[hb] at h;cases h
      |true =>
        rw[hb,cond_true] at h
        simp only[Bool.and_eq_true,Bool.not_eq_true'] at hb
        obtain⟨⟨hb1,hb2⟩,hb3⟩:=hb
        have hc:=h1.cells hb3
        have e1:v.cells.size=size:=by have:=hc.length;simp only[Array.length_toList] at this;rw[this];exact Nat.eq_of_beq_eq_true hb1
        have e2:¬(off+v.cells.size > cs.size):=by
          have:=hc.length;simp only[Array.length_toList] at this
          have h3:=hl.length;simp only[Array.length_toList] at h3
          have:=Nat.le_of_ble_eq_true hb2
          omega
        have e3:(v.cells.size≠size||off+v.cells.size > cs.size)=false:=by simp[e1];omega
        rw[if_neg (by simp[e1];rw[e1] at e2;omega)]
        refine Qi place ps l' _ _ r h h2 ?_
        have:=Q07 φ (cellsOf a) v.cells.toList l cs off 0 hc hl
        rw[←Array.foldl_toList,Array.toList_zipIdx]
        simpa using this
section
variable (P : Program) (ev : Operand → Option AV)
noncomputable def toV:AV→Option Value
  |.bool b=>some (.bool b)
  |.int k n=>some (.int k n)
  |.raw v=>some v
  |_=>none
noncomputable def sc (x:Operand):Value:=match ev x with
  |some a=>match toV a with
    |some v=>v
    |none=>undef
  |none=>undef
noncomputable def Tq (x:Operand):Bool:=match ev x with
  |some a=>match toV a with
    |some _=>true
    |none=>false
  |none=>false
noncomputable def Oi:List Operand→Bool
  |[]=>true
  |x::l=>Tq ev x&&Oi l
noncomputable def Np:Value→Option AV
  |.bool b=>some (.bool b)
  |.int k n=>some (.int k n)
  |.float k b=>some (.raw (.float k b))
  |.complex k a b=>some (.raw (.complex k a b))
  |.string s=>some (.str s.data.toList)
  |_=>none
noncomputable def L1:Op→Bool
  |.select _ _=>false
  |_=>true
noncomputable def Hy (o:Oper):Option AV:=bif L1 o.op&&Oi ev o.op.operands.toList then match pr P (execOp (sc ev) o) with
  |some (.value v)=>Np v
  |_=>none else none
noncomputable def Rt:AV→Option Value
  |.str l=>some (.string ⟨l.toArray⟩)
  |.nilp=>some (.pointer none)
  |.nilm=>some (.map none)
  |.nilf=>some .nilFunc
  |.nili=>some .nilIface
  |a=>toV a
noncomputable def O0:List AV→Option (List Value)
  |[]=>some []
  |a::l=>match Rt a with
    |some v=>match O0 l with
      |some r=>some (v::r)
      |none=>none
    |none=>none
noncomputable def Oz:AV→Option Value
  |.str l=>some (.string ⟨l.toArray⟩)
  |.fn f [] []=>some (.func (.func f) #[] #[])
  |.agg l=>match O0 l with
    |some r=>some (.agg r.toArray)
    |none=>none
  |a=>toV a
noncomputable def scS (x:Operand):Value:=match ev x with
  |some a=>match Oz a with
    |some v=>v
    |none=>undef
  |none=>undef
noncomputable def Tp (x:Operand):Bool:=match ev x with
  |some a=>match Oz a with
    |some _=>true
    |none=>false
  |none=>false
noncomputable def K9:List Operand→Bool
  |[]=>true
  |x::l=>Tp ev x&&K9 l
noncomputable def Q3s (f:Nat):Bool:=match P.funcs[f]? with
  |some fn=>fn.body.isNone
  |none=>false
noncomputable def Sa (o:Oper):Option AV:=bif L1 o.op&&K9 ev o.op.operands.toList then match pr P (execOp (scS ev) o) with
  |some (.value v)=>Np v
  |_=>none else none
noncomputable def T8 (o:Oper):Option AV:=match o.op with
  |.call c=>match c.callee with
    |.value x=>match ev x with
      | some (.fn f [] []) => bif Q3s P f && K9 ev o.op.operands.toList then match pr P (execOp (scS ev) o) with
          |some (.value v)=>Np v
          |_=>none else none
      |_=>none
    |_=>none
  |_=>none
end
def EVR (φ:Phi) (ev:Operand→Option AV) (ρ:Operand→Value):Prop:=∀x a,ev x=some a→VR φ a (ρ x)
section
variable {P : Program} {ev : Operand → Option AV} {φ : Phi} {ρ : Operand → Value}
theorem Rs {a:AV} {v u:Value} (h:toV a=some v) (k:VR φ a u):u=v:=by
  cases a<;>simp only[toV,Option.some.injEq,reduceCtorEq] at h<;>subst h<;>simpa only [VR] using k
theorem X1g (hev:EVR φ ev ρ) {x:Operand} (h:Tq ev x=true):sc ev x=ρ x:=by
  unfold Tq at h
  unfold sc
  split at h
  · rename_i a ha
    split at h
    · rename_i v hv
      exact(Rs hv (hev _ _ ha)).symm
    · cases h
  · cases h
theorem Q4i (hev:EVR φ ev ρ):∀{l:List Operand},Oi ev l=true→∀x∈l,sc ev x=ρ x
  |[],_=>by simp
  |y::l,h=>by
    simp only[Oi,Bool.and_eq_true] at h
    intro x hx
    rcases List.mem_cons.1 hx with rfl|hx
    · exact X1g hev h.1
    · exact Q4i hev h.2 x hx
theorem S4 {v:Value} {a:AV} (h:Np v=some a):VR φ a v:=by
  unfold Np at h
  split at h<;>first|(cases h;simp[VR];done)|cases h
def My (P:Program) (φ:Phi) (ρ:Operand→Value) (o:Oper) (a:AV):Prop:=∃v,(∀w,(execOp ρ o).run P w = .ok (.value v) w)∧VR φ a v
theorem Pc (hev:EVR φ ev ρ) {o:Oper} {a:AV} (h:Hy P ev o=some a):My P φ ρ o a:=by
  unfold Hy at h
  cases hb:(L1 o.op&&Oi ev o.op.operands.toList) with
  |false=>rw[hb] at h;cases h
  |true =>
    rw[hb,cond_true] at h
    simp only[Bool.and_eq_true] at hb
    split at h
    · rename_i v hv
      refine⟨v,fun w=>?_,S4 h⟩
      have he:execOp ρ o=execOp (sc ev) o:=execOp_congr o (fun cs b e=>by rw[e] at hb;simp[L1] at hb) (fun x hx=>(Q4i hev hb.2 x (by simpa using hx)).symm)
      rw[he];exact Ss hv w
    · cases h
theorem Q51 {a:AV} {v u:Value} (h:Rt a=some v) (k:VR φ a u):u=v:=by
  unfold Rt at h
  split at h<;>first|(cases h;simpa only [VR] using k)|exact Rs h k
theorem Wh:∀{l:List AV} {vs us:List Value},O0 l=some vs→VRl φ l us→us=vs
  |[],_,_,h,k=>by cases h;exact k.nil_inv
  |a::l,_,_,h,k=>by
    unfold O0 at h
    split at h
    · rename_i v hv
      split at h
      · rename_i r hr
        cases h
        obtain⟨u,us',rfl,k1,k2⟩:=k.cons_inv
        rw[Q51 hv k1,Wh hr k2]
      · cases h
    · cases h
theorem Q50 {a:AV} {v u:Value} (h:Oz a=some v) (k:VR φ a u):u=v:=by
  unfold Oz at h
  split at h
  · cases h;simpa only [VR] using k
  · cases h
    simp only[VR] at k
    obtain⟨vf,vc,h1,h2,k⟩:=k
    rw[h1.nil_inv,h2.nil_inv] at k;exact k
  · split at h
    · rename_i r hr
      cases h
      simp only[VR] at k
      obtain⟨us,k1,k⟩:=k
      rw[Wh hr k1] at k;exact k
    · cases h
  · exact Rs h k
theorem X1h (hev:EVR φ ev ρ) {x:Operand} (h:Tp ev x=true):scS ev x=ρ x:=by
  unfold Tp at h
  unfold scS
  split at h
  · rename_i a ha
    split at h
    · rename_i v hv
      exact(Q50 hv (hev _ _ ha)).symm
    · cases h
  · cases h
theorem Vn (hev:EVR φ ev ρ):∀{l:List Operand},K9 ev l=true→∀x∈l,scS ev x=ρ x
  |[],_=>by simp
  |y::l,h=>by
    simp only[K9,Bool.and_eq_true] at h
    intro x hx
    rcases List.mem_cons.1 hx with rfl|hx
    · exact X1h hev h.1
    · exact Vn hev h.2 x hx
theorem Q6x (hev:EVR φ ev ρ) {o:Oper} {a:AV} (h:Sa P ev o=some a):My P φ ρ o a:=by
  unfold Sa at h
  cases hb:(L1 o.op&&K9 ev o.op.operands.toList) with
  |false=>rw[hb] at h;cases h
  |true =>
    rw[hb,cond_true] at h
    simp only[Bool.and_eq_true] at hb
    split at h
    · rename_i v hv
      refine⟨v,fun w=>?_,S4 h⟩
      have he:execOp ρ o=execOp (scS ev) o:=execOp_congr o (fun cs b e=>by rw[e] at hb;simp[L1] at hb) (fun x hx=>(Vn hev hb.2 x (by simpa using hx)).symm)
      rw[he];exact Ss hv w
    · cases h
theorem X2q (hev:EVR φ ev ρ) {o:Oper} {a:AV} (h:T8 P ev o=some a):My P φ ρ o a:=by
  unfold T8 at h
  split at h
  · rename_i c hop
    split at h
    · split at h
      · rename_i f _
        cases hb:(Q3s P f&&K9 ev o.op.operands.toList) with
        |false=>rw[hb] at h;cases h
        |true =>
          rw[hb,cond_true] at h
          simp only[Bool.and_eq_true] at hb
          split at h
          · rename_i v hv
            refine⟨v,fun w=>?_,S4 h⟩
            have he:execOp ρ o=execOp (scS ev) o:=execOp_congr o (fun cs b e=>by rw[hop] at e;cases e) (fun x hx=>(Vn hev hb.2 x (by simpa using hx)).symm)
            rw[he];exact Ss hv w
          · cases h
      · cases h
    · cases h
  · cases h
end
end Sv
end
section
open Go Go.RowKit
namespace Sv
theorem Hb (l:List UInt8):(⟨l.toArray⟩:ByteArray).size=l.length:=by simp[ByteArray.size]
theorem Ms (l:List UInt8):(⟨l.toArray⟩:ByteArray).toList=l:=by rw[Lib.toList_data]
theorem Eg (b o j:Nat):(⟨b,o,none⟩:Addr).add j=⟨b,o+j,none⟩:=by unfold Addr.add;split<;>simp_all
noncomputable def Jp:AV→Option Nat
  |.int _ (.ofNat n)=>some n
  |_=>none
theorem L3 {φ:Phi} {a:AV} {n:Nat} {v:Value} (h:Jp a=some n) (k:VR φ a v):∃kd,v = .int kd (n:Int):=by
  unfold Jp at h
  split at h
  · cases h;simp only[VR] at k;exact⟨_,k⟩
  · cases h
section
variable (P : Program)
noncomputable def Hv:List UInt8→List UInt8→Bool
  |[],[]=>true
  |a::l,b::m=>Nat.beq a.toNat b.toNat&&Hv l m
  |_,_=>false
theorem Wn:∀(l m:List UInt8),Hv l m=decide (l=m)
  |[],[]=>rfl
  |[],_::_=>by simp[Hv]
  |_::_,[]=>by simp[Hv]
  |a::l,b::m=>by
    simp only[Hv,Wn l m,List.cons.injEq,Bool.decide_and]
    congr 1
    by_cases h:a=b
    · subst h;simp
    · have:a.toNat≠b.toNat:=fun e=>h (UInt8.toNat_inj.1 e)
      rw[Hp this];simp[h]
noncomputable def binA (op:BinOp) (t:Nat) (a b:AV):Option AV:=match op,a,b with
  |.eql,.str x,.str y=>some (.bool (Hv x y))
  |.neq,.str x,.str y=>some (.bool (!Hv x y))
  |.lss,.str x,.str y=>some (.bool (Op.bytesLess x y))
  |.gtr,.str x,.str y=>some (.bool (!(Op.bytesLess x y||Hv x y)))
  |.leq,.str x,.str y=>some (.bool (Op.bytesLess x y||Hv x y))
  |.geq,.str x,.str y=>some (.bool (!Op.bytesLess x y))
  |.add,.str x,.str y=>bif Nat.ble (x.length+y.length) 1000000 then some (.str (x++y)) else none
  |op,a,b=>match op with
    |.eql=>nilEq a b
    |.neq=>match nilEq a b with
      |some (.bool r)=>some (.bool (!r))
      |_=>none
    |_=>none
where nilEq (a b:AV):Option AV:=match P.underlying t,a,b with
  |some (.pointer _),.ptr _ _,.nilp=>some (.bool false)
  |some (.pointer _),.nilp,.ptr _ _=>some (.bool false)
  |some (.pointer _),.nilp,.nilp=>some (.bool true)
  |some (.pointer _),.fp _,.nilp=>some (.bool false)
  |some (.pointer _),.nilp,.fp _=>some (.bool false)
  |some (.slice _),.nils,.sl _ _ _ _ _=>some (.bool false)
  |some (.slice _),.sl _ _ _ _ _,.nils=>some (.bool false)
  |some (.slice _),.nils,.nils=>some (.bool true)
  |some (.slice _),.sle,.nils=>some (.bool false)
  |some (.slice _),.nils,.sle=>some (.bool false)
  |some (.interface _),.ifc _ _,.nili=>some (.bool false)
  |some (.interface _),.nili,.ifc _ _=>some (.bool false)
  |some (.func _ _ _),.fn _ _ _,.nilf=>some (.bool false)
  |some (.func _ _ _),.nilf,.nilf=>some (.bool true)
  |_,_,_=>none
end
section
variable {P : Program} {φ : Phi}
theorem Zc {t:Nat} {a b r:AV} {x y:Value} (h:binA.nilEq P t a b=some r) (hx:VR φ a x) (hy:VR φ b y):∃q,r = .bool q∧∀w,(Op.equal t x y).run P w = .ok q w:=by
  unfold binA.nilEq at h
  split at h<;>first|cases h|skip
  all_goals
    rename_i hu
    refine⟨_,rfl,fun w=>?_⟩
    simp only[VR] at hx hy
    unfold Op.equal Op.maxDepth Op.equalIn
    first
      |(obtain⟨x1,κ1,e1,rfl⟩:=hx;subst hy;simp[run_underlying hu,go_sem];done)
      |(obtain⟨x1,κ1,e1,rfl⟩:=hy;subst hx;simp[run_underlying hu,go_sem];done)
      |(obtain⟨x1,κ1,e1,⟨_,_,rfl⟩|⟨_,rfl⟩⟩:=hx<;>subst hy<;>simp[run_underlying hu,go_sem];done)
      |(obtain⟨x1,κ1,e1,⟨_,_,rfl⟩|⟨_,rfl⟩⟩:=hy<;>subst hx<;>simp[run_underlying hu,go_sem];done)
      |(obtain⟨x1,e1,rfl⟩:=hx;subst hy;simp[run_underlying hu,go_sem];done)
      |(obtain⟨x1,e1,rfl⟩:=hy;subst hx;simp[run_underlying hu,go_sem];done)
      |(obtain⟨x1,x2,rfl⟩:=hx;subst hy;simp[run_underlying hu,go_sem];done)
      |(obtain⟨x1,x2,rfl⟩:=hy;subst hx;simp[run_underlying hu,go_sem];done)
      |(obtain⟨x1,x2,x3,rfl,e4⟩:=hx;subst hy;simp[run_underlying hu,go_sem];done)
      |(obtain⟨x1,x2,x3,rfl,e4⟩:=hy;subst hx;simp[run_underlying hu,go_sem];done)
      |(obtain⟨x1,x2,e1,e2,rfl⟩:=hx;subst hy;simp[run_underlying hu,go_sem];done)
      |(subst hx;subst hy;simp[run_underlying hu,go_sem];done)
end
end Sv
end
section
open Go Go.RowKit
namespace Sv
section
variable (P : Program)
noncomputable def Jy:Option (Option AV)→Option Nat
  |none=>some 0
  |some (some a)=>Jp a
  |some none=>none
noncomputable def G8 (d:Nat):Option (Option AV)→Option Nat
  |none=>some d
  |some (some a)=>Jp a
  |some none=>none
noncomputable def W0 (l:List UInt8) (lo hi:Option (Option AV)):Option AV:=match Jy lo,G8 l.length hi with
  |some i,some j=>bif Nat.ble i j&&Nat.ble j l.length then some (.str ((l.take j).drop i)) else none
  |_,_=>none
noncomputable def S3:Option (Option AV)→Option (Option AV)→Bool
  |some _,none=>false
  |_,_=>true
noncomputable def O6 (b off len cap size:Nat) (lo hi mx:Option (Option AV)):Option AV:=match Jy lo,G8 len hi,G8 cap mx with
  |some i,some j,some m=>bif Nat.ble i j&&Nat.ble j m&&Nat.ble m cap&&S3 mx hi then some (.sl b (bif Nat.beq m i then off else off+i*size) (j-i) (m-i) false) else none
  |_,_,_=>none
noncomputable def W1 (b off len d size:Nat) (lo hi mx:Option (Option AV)):Option AV:=match mx with
  |none=>match Jy lo,G8 len hi with
    |some i,some j=>bif Nat.ble i j&&Nat.ble j len then (bif Nat.beq i 0 then some (.sl b off j d true) else bif Nat.beq i len then some .sle else some (.sl b (off+i*size) (j-i) (d+i) true)) else none
    |_,_=>none
  |some _=>match hi with
    |none=>none
    |some _=>match Jy lo,G8 len hi,G8 len mx with
      |some i,some j,some m=>bif Nat.ble i j&&Nat.ble j m&&Nat.ble m len then some (.sl b (bif Nat.beq m i then off else off+i*size) (j-i) (m-i) false) else none
      |_,_,_=>none
noncomputable def R5 (t:Nat) (a:AV) (lo hi mx:Option (Option AV)):Option AV:=match P.underlying t with
  |some .string=>match a,mx with
    |.str l,none=>W0 l lo hi
    |_,_=>none
  |some (.slice e)=>match tsz P e with
    |some size=>match a with
      |.sl b off len cap false=>O6 b off len cap size lo hi mx
      |.sl b off len d true=>W1 b off len d size lo hi mx
      |.nils=>match Jy lo,G8 0 hi,G8 0 mx with
        |some 0,some 0,some 0=>match mx,hi with
          |some _,none=>none
          |_,_=>some .nils
        |_,_,_=>none
      |_=>none
    |none=>none
  |some (.array n e)=>match tsz P e with
    |some size=>match a with
      |.ptr b off=>O6 b off n n size lo hi mx
      |_=>none
    |none=>none
  |_=>none
end
section
variable {P : Program} {φ : Phi}
def BR (φ:Phi):Option (Option AV)→Option Value→Prop
  |none,v=>v=none
  |some (some a),v=>∃u,v=some u∧VR φ a u
  |some none,_=>True
theorem Mo {d n cap:Nat} {x:Option (Option AV)} {v:Option Value} (h:G8 d x=some n) (k:BR φ x v):(x=none∧v=none∧n=d)∨(x≠none∧∃kd,v=some (.int kd (n:Int))):=by
  unfold G8 at h
  split at h
  · cases h;simp only[BR] at k;exact .inl ⟨rfl,k,rfl⟩
  · simp only[BR] at k
    obtain⟨u,rfl,hu⟩:=k
    obtain⟨kd,rfl⟩:=L3 h hu
    exact .inr ⟨by simp,kd,rfl⟩
  · cases h
theorem X5t {n:Nat} {x:Option (Option AV)} {v:Option Value} (h:Jy x=some n) (k:BR φ x v):(x=none∧v=none∧n=0)∨(x≠none∧∃kd,v=some (.int kd (n:Int))):=by
  unfold Jy at h
  split at h
  · cases h;simp only[BR] at k;exact .inl ⟨rfl,k,rfl⟩
  · simp only[BR] at k
    obtain⟨u,rfl,hu⟩:=k
    obtain⟨kd,rfl⟩:=L3 h hu
    exact .inr ⟨by simp,kd,rfl⟩
  · cases h
theorem Gz {isS : Bool} {len cap i j m : Nat} {lo hi mx : Option Value} (h1 : (lo = none ∧ i = 0) ∨ ∃ k, lo = some (.int k (i : Int))) (h2 : (hi = none ∧ j = len) ∨ ∃ k, hi = some (.int k (j : Int))) (h3 : (mx = none ∧ m = cap) ∨ ((∃ k, mx = some (.int k (m : Int))) ∧ hi ≠ none))
    (hij:i≤j) (hjm:j≤m) (hm:m≤cap) (w:World):(Instr.sliceBounds isS len cap lo hi mx).run P w = .ok (i,j,m) w:=by
  have e1:(0:Int)≤(i:Int)∧(i:Int)≤(j:Int):=by omega
  have e2:(0:Int)≤(j:Int)∧(j:Int)≤(m:Int):=by omega
  have e3:(0:Int)≤(m:Int)∧(m:Int)≤(cap:Int):=by omega
  rcases h1 with⟨rfl,rfl⟩|⟨k1,rfl⟩<;>rcases h2 with⟨rfl,rfl⟩|⟨k2,rfl⟩<;>rcases h3 with⟨rfl,rfl⟩|⟨⟨k3,rfl⟩,hne⟩ <;>
    first
      |exact absurd rfl hne
      |(simp[Instr.sliceBounds,Instr.sliceBound,asIntOf,e1.2,e2.2,e3.2,go_sem];done)
      |(simp[Instr.sliceBounds,Instr.sliceBound,asIntOf,e1,e2,e3,go_sem];done)
      |(simp[Instr.sliceBounds,Instr.sliceBound,asIntOf,hij,hjm,hm,Nat.not_lt.2 hij,Nat.not_lt.2 hjm,Nat.not_lt.2 hm,go_sem];done)
theorem Dz {a b:Nat} (h:Nat.ble a b=true):a≤b:=Nat.le_of_ble_eq_true h
theorem Q6p {t : Nat} {a r : AV} {x : Value} {lo hi mx : Option (Option AV)} {vl vh vm : Option Value} (h : R5 P t a lo hi mx = some r) (hx : VR φ a x) (hl : BR φ lo vl) (hh : BR φ hi vh) (hm : BR φ mx vm) :
    ∃v,(∀w,(Instr.sliceAt t x vl vh vm).run P w = .ok v w)∧VR φ r v:=by
  have lo':∀{n},Jy lo=some n→(vl=none∧n=0)∨∃k,vl=some (.int k (n:Int)):=fun e=>(X5t e hl).imp (fun q=>q.2) (fun q=>q.2)
  have hi':∀{d n},G8 d hi=some n→(vh=none∧n=d)∨∃k,vh=some (.int k (n:Int)):=fun e=>(Mo (cap:=0) e hh).imp (fun q=>q.2) (fun q=>q.2)
  have hi'':hi≠none→∀{d n},G8 d hi=some n→vh≠none:=by
    intro hne d n e
    rcases Mo (cap:=0) e hh with⟨q,_⟩|⟨_,k,q⟩
    · exact absurd q hne
    · rw[q];simp
  unfold R5 at h
  split at h
  · rename_i hu
    split at h
    · rename_i l
      simp only[VR] at hx;subst hx
      have hm':vm=none:=by simpa only [BR] using hm
      subst hm'
      unfold W0 at h
      split at h
      · rename_i i j hi1 hj1
        cases hc:(Nat.ble i j&&Nat.ble j l.length) with
        |false=>rw[hc] at h;cases h
        |true =>
          rw[hc,cond_true] at h;cases h
          simp only[Bool.and_eq_true] at hc
          have hb:=fun w=>Gz (P:=P) (isS:=false) (cap:=l.length) (m:=l.length) (mx:=none) (lo' hi1) (hi' hj1) (.inl ⟨rfl,rfl⟩) (Dz hc.1) (Dz hc.2) (Nat.le_refl _) w
          refine⟨.string ⟨((l.take j).drop i).toArray⟩,fun w=>?_,by simp[VR]⟩
          have he:(⟨l.toArray⟩:ByteArray).extract i j=⟨((l.take j).drop i).toArray⟩:=by
            apply ByteArray.ext;simp[ByteArray.data_extract,List.drop_take]
          simp only[Instr.sliceAt,Instr.slice,Sem.run_bind,Sem.run_pure,run_underlying hu,Result.andThen_ok,Hb,hb,he,Option.isSome_none,Bool.false_eq_true,if_false]
      · cases h
    · cases h
  · rename_i e hu
    split at h
    · rename_i size hs
      split at h
      · rename_i b off len cap
        simp only[VR] at hx
        obtain⟨y,κ,hφ,⟨h0,_⟩|⟨_,rfl⟩⟩:=hx
        · cases h0
        unfold O6 at h
        split at h
        · rename_i i j m hi1 hj1 hm1
          cases hc:(Nat.ble i j&&Nat.ble j m&&Nat.ble m cap&&S3 mx hi) with
          |false=>rw[hc] at h;cases h
          |true =>
            rw[hc,cond_true] at h;cases h
            simp only[Bool.and_eq_true] at hc
            obtain⟨⟨⟨c1,c2⟩,c3⟩,c4⟩:=hc
            have hmx:(vm=none∧m=cap)∨((∃k,vm=some (.int k (m:Int)))∧vh≠none):=by
              rcases Mo (cap:=0) hm1 hm with⟨q1,q2,q3⟩|⟨q1,q2⟩
              · exact .inl ⟨q2,q3⟩
              · refine .inr ⟨q2,?_⟩
                cases mx with
                |none=>exact absurd rfl q1
                |some z=>cases hi with
                  |none=>cases c4
                  |some u=>exact hi'' (by simp) hj1
            have hb:=fun w=>Gz (P:=P) (isS:=true) (lo' hi1) (hi' hj1) hmx (Dz c1) (Dz c2) (Dz c3) w
            refine⟨.slice (some (if m=i then ⟨y,off,none⟩ else (⟨y,off,none⟩:Addr).add (i*size))) (j-i) (m-i),fun w=>?_,?_⟩
            · simp only[Instr.sliceAt,Instr.slice,Sem.run_bind,Sem.run_pure,run_underlying hu,Result.andThen_ok,hb,C3 hs]<;>(try split)<;>rfl
            · simp only[VR]
              refine⟨y,κ,hφ,.inr ⟨by trivial,?_⟩⟩
              rcases Du m i with⟨q,q'⟩|⟨q,q'⟩
              · simp[q,q']
              · simp[q,q',Eg]
        · cases h
      · rename_i b off len d
        simp only[VR] at hx
        obtain⟨y,κ,hφ,⟨_,hκ,rfl⟩|⟨h0,_⟩⟩:=hx
        case inr=>cases h0
        unfold W1 at h
        split at h
        · have hm':vm=none:=by simpa only [BR] using hm
          subst hm'
          split at h
          · rename_i i j hi1 hj1
            cases hc:(Nat.ble i j&&Nat.ble j len) with
            |false=>rw[hc] at h;cases h
            |true =>
              rw[hc,cond_true] at h
              simp only[Bool.and_eq_true] at hc
              have c1:=Dz hc.1;have c2:=Dz hc.2
              have hb:=fun w=>Gz (P:=P) (isS:=true) (cap:=κ-d) (m:=κ-d) (mx:=none) (lo' hi1) (hi' hj1) (.inl ⟨rfl,rfl⟩) c1 (by omega) (Nat.le_refl _) w
              refine⟨.slice (some (if κ-d=i then ⟨y,off,none⟩ else (⟨y,off,none⟩:Addr).add (i*size))) (j-i) (κ-d-i),fun w=>?_,?_⟩
              · simp only[Instr.sliceAt,Instr.slice,Sem.run_bind,Sem.run_pure,run_underlying hu,Result.andThen_ok,hb,C3 hs]<;>(try split)<;>rfl
              · rcases Du i 0 with⟨q,rfl⟩|⟨q,q'⟩
                · rw[q,cond_true] at h;cases h
                  simp only[VR]
                  refine⟨y,κ,hφ,.inl ⟨by trivial,by omega,?_⟩⟩
                  by_cases h0:κ-d=0
                  · simp[h0]
                  · simp[h0,Addr.add]
                · rw[q,cond_false] at h
                  rcases Du i len with⟨p,rfl⟩|⟨p,p'⟩
                  · rw[p,cond_true] at h;cases h
                    simp only[VR]
                    exact⟨_,_,by rw[show j-i=0 by omega]⟩
                  · rw[p,cond_false] at h;cases h
                    simp only[VR]
                    refine⟨y,κ,hφ,.inl ⟨by trivial,by omega,?_⟩⟩
                    rw[if_neg (by omega),Eg,show κ-d-i=κ-(d+i) by omega]
          · cases h
        · split at h
          · cases h
          · split at h
            · rename_i i j m hi1 hj1 hm1
              cases hc:(Nat.ble i j&&Nat.ble j m&&Nat.ble m len) with
              |false=>rw[hc] at h;cases h
              |true =>
                rw[hc,cond_true] at h;cases h
                simp only[Bool.and_eq_true] at hc
                obtain⟨⟨c1,c2⟩,c3⟩:=hc
                have hmx:(vm=none∧m=κ-d)∨((∃k,vm=some (.int k (m:Int)))∧vh≠none):=by
                  rcases Mo (cap:=0) hm1 hm with⟨q1,q2,q3⟩|⟨q1,q2⟩
                  · cases q1
                  · exact .inr ⟨q2,hi'' (by simp) hj1⟩
                have hb:=fun w=>Gz (P:=P) (isS:=true) (lo' hi1) (hi' hj1) hmx (Dz c1) (Dz c2) (by have:=Dz c3;omega) w
                refine⟨.slice (some (if m=i then ⟨y,off,none⟩ else (⟨y,off,none⟩:Addr).add (i*size))) (j-i) (m-i),fun w=>?_,?_⟩
                · simp only[Instr.sliceAt,Instr.slice,Sem.run_bind,Sem.run_pure,run_underlying hu,Result.andThen_ok,hb,C3 hs]<;>(try split)<;>rfl
                · simp only[VR]
                  refine⟨y,κ,hφ,.inr ⟨by trivial,?_⟩⟩
                  rcases Du m i with⟨q,q'⟩|⟨q,q'⟩
                  · simp[q,q']
                  · simp[q,q',Eg]
            · cases h
      · simp only[VR] at hx;subst hx
        split at h
        · rename_i hi1 hj1 hm1
          have key:r = .nils∧((vm=none∧(0:Nat)=0)∨((∃k,vm=some (.int k ((0:Nat):Int)))∧vh≠none)):=by
            rcases Mo (cap:=0) hm1 hm with⟨q1,q2,q3⟩|⟨q1,q2⟩
            · subst q1;simp only[Option.some.injEq] at h;exact⟨h.symm,.inl ⟨q2,rfl⟩⟩
            · cases mx with
              |none=>exact absurd rfl q1
              |some z=>cases hi with
                |none=>simp at h
                |some u=>simp only[Option.some.injEq] at h;exact⟨h.symm,.inr ⟨q2,hi'' (by simp) hj1⟩⟩
          obtain⟨rfl,hmx⟩:=key
          have hb:=fun w=>Gz (P:=P) (isS:=true) (lo' hi1) (hi' hj1) hmx (Nat.le_refl _) (Nat.le_refl _) (Nat.le_refl _) w
          refine⟨.slice none 0 0,fun w=>?_,by simp[VR]⟩
          simp only[Instr.sliceAt,Instr.slice,Sem.run_bind,Sem.run_pure,run_underlying hu,Result.andThen_ok,hb,C3 hs]<;>(try split)<;>rfl
        · cases h
      · cases h
    · cases h
  · rename_i n e hu
    split at h
    · rename_i size hs
      split at h
      · rename_i b off
        simp only[VR] at hx
        obtain⟨y,κ,hφ,rfl⟩:=hx
        unfold O6 at h
        split at h
        · rename_i i j m hi1 hj1 hm1
          cases hc:(Nat.ble i j&&Nat.ble j m&&Nat.ble m n&&S3 mx hi) with
          |false=>rw[hc] at h;cases h
          |true =>
            rw[hc,cond_true] at h;cases h
            simp only[Bool.and_eq_true] at hc
            obtain⟨⟨⟨c1,c2⟩,c3⟩,c4⟩:=hc
            have hmx:(vm=none∧m=n)∨((∃k,vm=some (.int k (m:Int)))∧vh≠none):=by
              rcases Mo (cap:=0) hm1 hm with⟨q1,q2,q3⟩|⟨q1,q2⟩
              · exact .inl ⟨q2,q3⟩
              · refine .inr ⟨q2,?_⟩
                cases mx with
                |none=>exact absurd rfl q1
                |some z=>cases hi with
                  |none=>cases c4
                  |some u=>exact hi'' (by simp) hj1
            have hb:=fun w=>Gz (P:=P) (isS:=false) (lo' hi1) (hi' hj1) hmx (Dz c1) (Dz c2) (Dz c3) w
            refine⟨.slice (some (if m=i then ⟨y,off,none⟩ else (⟨y,off,none⟩:Addr).add (i*size))) (j-i) (m-i),fun w=>?_,?_⟩
            · simp only[Instr.sliceAt,Instr.sureAddr,Sem.run_bind,Sem.run_pure,run_underlying hu,Result.andThen_ok,hb,C3 hs]
            · simp only[VR]
              refine⟨y,κ,hφ,.inr ⟨by trivial,?_⟩⟩
              rcases Du m i with⟨q,q'⟩|⟨q,q'⟩
              · simp[q,q']
              · simp[q,q',Eg]
        · cases h
      · cases h
    · cases h
  · cases h
end
end Sv
end
section
open Go Go.RowKit
namespace Sv
section
variable (P : Program) (ev : Operand → Option AV)
noncomputable def evs:List Operand→Option (List AV)
  |[]=>some []
  |x::l=>match ev x with
    |some a=>match evs l with
      |some r=>some (a::r)
      |none=>none
    |none=>none
noncomputable def evp:List (Nat × Operand)→Option (List (Nat × AV))
  |[]=>some []
  |(i,x)::l=>match ev x with
    |some a=>match evp l with
      |some r=>some ((i,a)::r)
      |none=>none
    |none=>none
noncomputable def Pn:List Field→Option (List (Nat × Nat))
  |[]=>some []
  |f::l=>match tsz P f.type with
    |some n=>match Pn l with
      |some r=>some ((f.offset,n)::r)
      |none=>none
    |none=>none
noncomputable def Vc (t:Nat) (ps:List (Nat × AV)):Option AV:=match Ij P t with
  |some (.agg z)=>match P.underlying t with
    |some (.struct fields)=>match Pn P fields.toList with
      |some pl=>match Mh (fun i=>pl[i]?) z ps with
        |some r=>some (.agg r)
        |none=>none
      |none=>none
    |some (.array _ e)=>match tsz P e with
      |some n=>match Mh (fun i=>some (i*n,n)) z ps with
        |some r=>some (.agg r)
        |none=>none
      |none=>none
    |_=>none
  |_=>none
noncomputable def Zb (op:BinOp) (t:Nat):Option AV:=match P.underlying t with
  |some (.interface _)=>match op with
    |.eql=>some (.bool true)
    |.neq=>some (.bool false)
    |_=>none
  |_=>none
noncomputable def ob (x:Option Operand):Option (Option AV):=match x with
  |none=>none
  |some x=>some (ev x)
noncomputable def X7 (c a b : Operand) : Option AV := match ev c with
    |some (.bool t)=>bif t then ev a else ev b
    |_=>none
noncomputable def Yj (o : Oper) (op : BinOp) (t : Nat) (x y : Operand) : Option AV := match ev x with
    |some a=>match ev y with
      |some b=>match toV a with
        |some _=>Hy P ev o
        |none=>match a with
          |.agg _=>Sa P ev o
          |.nili=>match b with
            |.nili=>bif Region.isConst x||Region.isConst y then Zb P op t else none
            |_=>binA P op t a b
          |_=>binA P op t a b
      |none=>none
    |none=>none
noncomputable def Yg (o : Oper) (s d : Nat) (x : Operand) : Option AV := match ev x with
    |some (.str l)=>match P.underlying s with
      |some .string=>match P.underlying d with
        |some .string=>some (.str l)
        |_=>none
      |_=>none
    |some _=>Hy P ev o
    |none=>none
noncomputable def Yb (t : Nat) (x : Operand) : Option AV := match P.underlying t with
    |some (.interface _)=>none
    |some _=>match ev x with
      |some a=>some (.ifc t a)
      |none=>none
    |none=>none
noncomputable def Yc (fn : Fn) (first cap : Array Operand) : Option AV := match fn with
    |.func f=>match evs ev first.toList with
      |some l=>match evs ev cap.toList with
        |some m=>some (.fn f l m)
        |none=>none
      |none=>none
    |_=>none
noncomputable def Yf (x : Operand) (i : Nat) : Option AV := match ev x with
    |some (.tup l)=>l[i]?
    |_=>none
noncomputable def X8 (x : Operand) : Option AV := match ev x with
    |some (.ptr b off)=>some (.ptr b off)
    |_=>none
noncomputable def Yd (s : Nat) (x : Operand) (f : Nat) : Option AV := match ev x with
    |some (.ptr b off)=>match P.underlying s with
      |some (.struct fields)=>match fields.toList[f]? with
        |some fd=>match tsz P fd.type with
          |some (_+1)=>some (.ptr b (off+fd.offset))
          |_=>none
        |none=>none
      |_=>none
    |_=>none
noncomputable def Ye (s : Nat) (x : Operand) (f : Nat) : Option AV := match ev x with
    |some (.agg l)=>match P.underlying s with
      |some (.struct fields)=>match fields.toList[f]? with
        |some fd=>Pp P fd.type l fd.offset
        |none=>none
      |_=>none
    |_=>none
noncomputable def X9 (t : Nat) (x i : Operand) : Option AV := match ev x with
    |some a=>match ev i with
      |some ia=>match Jp ia with
        |some n=>match P.underlying t with
          |some (.slice e)=>match tsz P e with
            |some size=>match a with
              |.sl b off len _ _=>bif Nat.blt n len then some (.ptr b (off+n*size)) else none
              |_=>none
            |none=>none
          |some (.array len e)=>match tsz P e with
            |some size=>match a with
              |.ptr b off=>bif Nat.blt n len then some (.ptr b (off+n*size)) else none
              |_=>none
            |none=>none
          |_=>none
        |none=>none
      |none=>none
    |none=>none
noncomputable def Ya (t : Nat) (x i : Operand) : Option AV := match ev x with
    |some a=>match ev i with
      |some ia=>match Jp ia with
        |some n=>match P.underlying t with
          |some .string=>match a with
            |.str l=>match l[n]? with
              |some u=>some (.int .u8 (.ofNat u.toNat))
              |none=>none
            |_=>none
          |some (.array len e)=>match a with
            |.agg l=>match tsz P e with
              |some size=>bif Nat.blt n len then Pp P e l (n*size) else none
              |none=>none
            |_=>none
          |_=>none
        |none=>none
      |none=>none
    |none=>none
noncomputable def X6 (t : Nat) (x : Operand) (lo hi mx : Option Operand) : Option AV := match ev x with
    |some a=>R5 P t a (ob ev lo) (ob ev hi) (ob ev mx)
    |none=>none
noncomputable def Yi (t : Nat) (parts : Array (Nat × Operand)) : Option AV := match evp ev parts.toList with
    |some ps=>Vc P t ps
    |none=>none
noncomputable def Yk (x : Operand) (t : Nat) (ok : Bool) : Option AV := match ev x with
    |some (.ifc u a)=>match P.underlying t with
      |some (.interface _)=>none
      |some _=>bif Nat.beq u t then some (bif ok then .tup [a,.bool true] else a) else bif ok then (match Ij P t with|some z=>some (.tup [z,.bool false])|none=>none) else none
      |none=>none
    |some .nili=>match P.underlying t with
      |some (.interface _)=>none
      |some _=>bif ok then (match Ij P t with|some z=>some (.tup [z,.bool false])|none=>none) else none
      |none=>none
    |_=>none
noncomputable def Yh (o : Oper) (c : Call) : Option AV := match c.callee with
    |.builtin .len=>match c.args.toList with
      |[x]=>match c.argTypes.toList with
        |[t]=>match ev x with
          |some (.str l)=>match P.underlying t with
            |some .string=>some (.int .i64 (.ofNat l.length))
            |_=>none
          |some (.sl _ _ len _ _)=>match P.underlying t with
            |some (.slice _)=>some (.int .i64 (.ofNat len))
            |_=>none
          |some .nils=>match P.underlying t with
            |some (.slice _)=>some (.int .i64 (.ofNat 0))
            |_=>none
          |some .sle=>match P.underlying t with
            |some (.slice _)=>some (.int .i64 (.ofNat 0))
            |_=>none
          |some .nilm=>match P.underlying t with
            |some (.map _ _)=>some (.int .i64 (.ofNat 0))
            |_=>none
          |_=>none
        |_=>none
      |_=>none
    |.builtin .cap=>match c.args.toList with
      |[x]=>match c.argTypes.toList with
        |[t]=>match ev x with
          |some (.sl _ _ _ cap false)=>match P.underlying t with
            |some (.slice _)=>some (.int .i64 (.ofNat cap))
            |_=>none
          |some .nils=>match P.underlying t with
            |some (.slice _)=>some (.int .i64 (.ofNat 0))
            |_=>none
          |_=>none
        |_=>none
      |_=>none
    |.builtin .min=>Hy P ev o
    |.builtin .max=>Hy P ev o
    |.builtin .real=>Hy P ev o
    |.builtin .imag=>Hy P ev o
    |.builtin .complex=>Hy P ev o
    |.value _=>T8 P ev o
    |_=>none
noncomputable def Fx (o:Oper):Option AV:=match o.op with
  |.move x=>ev x
  |.assign x=>ev x
  |.pick c a b=>X7 ev c a b
  |.binOp op t x y _=>Yj P ev o op t x y
  |.unOp _ _ _=>Hy P ev o
  |.convert s d x=>Yg P ev o s d x
  |.makeInterface t x=>Yb P ev t x
  |.makeFunc fn first cap=>Yc ev fn first cap
  |.extract x i=>Yf ev x i
  |.nilCheck x=>X8 ev x
  |.fieldAddr s x f=>Yd P ev s x f
  |.field s x f=>Ye P ev s x f
  |.indexAddr t x i=>X9 P ev t x i
  |.index t x i=>Ya P ev t x i
  |.slice t x lo hi mx=>X6 P ev t x lo hi mx
  |.build t parts=>Yi P ev t parts
  |.typeAssert x _ t ok=>Yk P ev x t ok
  |.call c=>Yh P ev o c
  |_=>none
end
section
variable {P : Program} {ev : Operand → Option AV} {φ : Phi} {ρ : Operand → Value}
theorem T9 (hev:EVR φ ev ρ):∀{l:List Operand} {r:List AV},evs ev l=some r→VRl φ r (l.map ρ)
  |[],_,h=>by cases h;exact .nil
  |x::l,_,h=>by
    unfold evs at h
    split at h
    · rename_i a ha
      split at h
      · rename_i r hr;cases h;exact .cons (hev _ _ ha) (T9 hev hr)
      · cases h
    · cases h
theorem Ua (hev:EVR φ ev ρ):∀{l:List (Nat × Operand)} {r:List (Nat × AV)},evp ev l=some r→NR φ r (l.map fun (i,x)=>(i,ρ x))
  |[],_,h=>by cases h;simp[NR]
  |(i,x)::l,_,h=>by
    unfold evp at h
    split at h
    · rename_i a ha
      split at h
      · rename_i r hr;cases h;simp only[NR,List.map_cons];exact⟨_,_,rfl,hev _ _ ha,Ua hev hr⟩
      · cases h
    · cases h
theorem Xw (w:World):∀{l:List Field} {r:List (Nat × Nat)},Pn P l=some r→(l.mapM (m:=Sem) fun f=>do pure (f.offset,←sizeOf f.type)).run P w = .ok r w
  |[],_,h=>by cases h;simp[go_sem]
  |f::l,_,h=>by
    unfold Pn at h
    split at h
    · rename_i n hn
      split at h
      · rename_i r hr
        cases h
        have:=Xw w hr
        simp only[List.mapM_cons,Sem.run_bind,Sem.run_pure,C3 hn,Result.andThen_ok,this]
      · cases h
    · cases h
theorem X5m {t:Nat} {ps:List (Nat × AV)} {qs:Array (Nat × Value)} {a:AV} (h:Vc P t ps=some a) (hp:NR φ ps qs.toList):∃v,(∀w,(Instr.build t qs).run P w = .ok v w)∧VR φ a v:=by
  unfold Vc at h
  split at h
  · rename_i z hz
    obtain⟨zv,hzv,hzr⟩:=J9 (φ:=φ) hz
    simp only[VR] at hzr
    obtain⟨zs,hzs,rfl⟩:=hzr
    split at h
    · rename_i fields hu
      split at h
      · rename_i pl hpl
        split at h
        · rename_i r hr
          cases h
          obtain⟨rs,h1,h2⟩:=Qi _ ps qs.toList z zs.toArray r hr hp (by simpa using hzs)
          refine⟨.agg rs,fun w=>?_,by simp only[VR];exact⟨rs.toList,h2,by simp⟩⟩
          have hm:(fields.mapM (m:=Sem) fun f=>do pure (f.offset,←sizeOf f.type)).run P w = .ok pl.toArray w:=by
            rw[Array.mapM_eq_mapM_toList]
            simp only[Sem.run_map,Xw w hpl,Result.andThen_ok]
          have hf:(fun i:Nat=>pl.toArray[i]?)=fun i=>pl[i]? :=by funext i;simp
          simp only[Instr.build,Sem.run_bind,hzv,Result.andThen_ok,run_underlying hu,hm,Value.cells,hf,h1,Sem.run_pure]
        · cases h
      · cases h
    · rename_i n e hu
      split at h
      · rename_i size hs
        split at h
        · rename_i r hr
          cases h
          obtain⟨rs,h1,h2⟩:=Qi _ ps qs.toList z zs.toArray r hr hp (by simpa using hzs)
          refine⟨.agg rs,fun w=>?_,by simp only[VR];exact⟨rs.toList,h2,by simp⟩⟩
          simp only[Instr.build,Sem.run_bind,hzv,Result.andThen_ok,run_underlying hu,C3 hs,Value.cells,h1,Sem.run_pure]
        · cases h
      · cases h
    · cases h
  · cases h
theorem S5 (hev:EVR φ ev ρ) (x:Option Operand):BR φ (ob ev x) (x.map ρ):=by
  cases x with
  |none=>simp[ob,BR]
  |some x =>
    unfold ob
    cases h:ev x with
    |none=>simp[h,BR]
    |some a=>simp only[h,BR,Option.map_some];exact⟨_,rfl,hev _ _ h⟩
theorem Fw {s:Sem Value} {w:World} {v:Value} (h:s.run P w = .ok v w):((do pure (.value (←s)):Sem Next)).run P w = .ok (.value v) w:=by
  simp only[Sem.run_bind,h,Result.andThen_ok,Sem.run_pure]
theorem N5 {op:BinOp} {t:Nat} {x y:Operand} {a b:Value} (w:World) (h:¬(a = .nilIface∧b = .nilIface)) (h':∀c d,¬(a = .agg c∧b = .agg d)):(eqGuard op t x y a b).run P w = .ok () w:=by
  unfold eqGuard
  by_cases ho:(!(match op with | .eql | .neq=>true|_=>false))=true
  · cases op<;>first|(simp at ho;done)|rfl
  · cases op<;>first|(simp at ho;done)|skip
    all_goals
      cases a<;>cases b<;>first|rfl|(exact absurd ⟨rfl,rfl⟩ h)|(exact absurd ⟨rfl,rfl⟩ (h' _ _))
theorem Q3v {op : BinOp} {t : Nat} {a b r : AV} {x y : Value} (h : binA P op t a b = some r) (ht : toV a = none) (hx : VR φ a x) (hy : VR φ b y) (xo yo : Operand) :
    ∃v,(∀w,((do eqGuard op t xo yo x y;binOp op t x y):Sem Value).run P w = .ok v w)∧VR φ r v:=by
  unfold binA at h
  split at h
  case h_8 =>
    have nilcase : ∀ q, binA.nilEq P t a b = some q → ¬ (x = .nilIface ∧ y = .nilIface) ∧ (∀ c d, ¬ (x = .agg c ∧ y = .agg d)) ∧ (∀ r : Bool, (∀ w, (Op.equal t x y).run P w = .ok r w) →
        (∀w,(binOp .eql t x y).run P w = .ok (.bool r) w)∧(∀w,(binOp .neq t x y).run P w = .ok (.bool (!r)) w)):=by
      intro q hq
      unfold binA.nilEq at hq
      split at hq<;>first|cases hq|skip
      all_goals
        simp only[VR] at hx hy
        first
          |(obtain⟨x1,κ1,e1,rfl⟩:=hx;subst hy;refine⟨by simp,by simp,fun r hr=>⟨fun w=>?_,fun w=>?_⟩⟩<;>simp[binOp,hr,go_sem];done)
          |(obtain⟨x1,κ1,e1,rfl⟩:=hy;subst hx;refine⟨by simp,by simp,fun r hr=>⟨fun w=>?_,fun w=>?_⟩⟩<;>simp[binOp,hr,go_sem];done)
          |(obtain⟨x1,κ1,e1,⟨_,_,rfl⟩|⟨_,rfl⟩⟩:=hx<;>subst hy<;>refine⟨by simp,by simp,fun r hr=>⟨fun w=>?_,fun w=>?_⟩⟩<;>simp[binOp,hr,go_sem];done)
          |(obtain⟨x1,κ1,e1,⟨_,_,rfl⟩|⟨_,rfl⟩⟩:=hy<;>subst hx<;>refine⟨by simp,by simp,fun r hr=>⟨fun w=>?_,fun w=>?_⟩⟩<;>simp[binOp,hr,go_sem];done)
          |(obtain⟨x1,e1,rfl⟩:=hx;subst hy;refine⟨by simp,by simp,fun r hr=>⟨fun w=>?_,fun w=>?_⟩⟩<;>simp[binOp,hr,go_sem];done)
          |(obtain⟨x1,e1,rfl⟩:=hy;subst hx;refine⟨by simp,by simp,fun r hr=>⟨fun w=>?_,fun w=>?_⟩⟩<;>simp[binOp,hr,go_sem];done)
          |(obtain⟨x1,x2,rfl⟩:=hx;subst hy;refine⟨by simp,by simp,fun r hr=>⟨fun w=>?_,fun w=>?_⟩⟩<;>simp[binOp,hr,go_sem];done)
          |(obtain⟨x1,x2,rfl⟩:=hy;subst hx;refine⟨by simp,by simp,fun r hr=>⟨fun w=>?_,fun w=>?_⟩⟩<;>simp[binOp,hr,go_sem];done)
          |(obtain⟨x1,x2,e1,e2,rfl⟩:=hx;subst hy;refine⟨by simp,by simp,fun r hr=>⟨fun w=>?_,fun w=>?_⟩⟩<;>simp[binOp,hr,go_sem];done)
          |(subst hx;subst hy;refine⟨by simp,by simp,fun r hr=>⟨fun w=>?_,fun w=>?_⟩⟩<;>simp[binOp,hr,go_sem];done)
    split at h
    · obtain⟨g1,g2,g3⟩:=nilcase _ h
      obtain⟨q,rfl,hq⟩:=Zc h hx hy
      exact⟨.bool q,fun w=>by simp only[Sem.run_bind,N5 w g1 g2,Result.andThen_ok,(g3 q hq).1 w],by simp[VR]⟩
    · split at h
      · rename_i r' hr'
        cases h
        obtain⟨g1,g2,g3⟩:=nilcase _ hr'
        obtain⟨q,hq0,hq⟩:=Zc hr' hx hy
        cases hq0
        exact⟨.bool (!r'),fun w=>by simp only[Sem.run_bind,N5 w g1 g2,Result.andThen_ok,(g3 r' hq).2 w],by simp[VR]⟩
      · cases h
    · cases h
  all_goals
    simp only[VR] at hx hy
    subst hx;subst hy
  case h_7 l m =>
    cases hb:Nat.ble (l.length+m.length) 1000000 with
    |false=>rw[hb] at h;cases h
    |true =>
      rw[hb,cond_true] at h;cases h
      refine⟨.string ⟨(l++m).toArray⟩,fun w=>?_,VR.ofStr _⟩
      have h1:¬(((l.length+m.length:Nat):Int) > IntKind.i64.max):=by
        have:IntKind.i64.max=9223372036854775807:=by decide
        have:=Dz hb
        omega
      have h2:(⟨l.toArray⟩:ByteArray)++⟨m.toArray⟩=⟨(l++m).toArray⟩:=by
        apply ByteArray.ext;simp[ByteArray.data_append]
      have hg:=N5 (P:=P) (op:=.add) (t:=t) (x:=xo) (y:=yo) (a:=.string ⟨l.toArray⟩) (b:=.string ⟨m.toArray⟩) w (by simp) (by simp)
      simp only[Sem.run_bind,hg,Result.andThen_ok,binOp,Op.stringOp,Hb,h2]
      rw[if_neg h1];rfl
  all_goals
    rename_i p q
    cases h
    refine⟨_,fun w=>?_,VR.ofBool _⟩
    have hg:=fun o=>N5 (P:=P) (op:=o) (t:=t) (x:=xo) (y:=yo) (a:=.string ⟨p.toArray⟩) (b:=.string ⟨q.toArray⟩) w (by simp) (by simp)
    have he:(p == q)=Hv p q:=by rw[Wn,Bool.eq_iff_iff];simp
    simp only[Sem.run_bind,hg,Result.andThen_ok,binOp,Op.stringOp,Ms,he,Sem.run_pure]
end
end Sv
end
section
open Go Go.RowKit
namespace Sv
section
variable {P : Program} {ev : Operand → Option AV} {φ : Phi} {ρ : Operand → Value}
theorem Q74 (hev:EVR φ ev ρ) {o:Oper} {a:AV} (h:Fx P ev o=some a):My P φ ρ o a:=by
  obtain⟨dst,op,type,pos,after,guard⟩:=o
  cases op<;>simp only[Fx,X7,Yj,Yg,Yb,Yc,Yf,X8,Yd,Ye,X9,Ya,X6,Yi,Yk,Yh,reduceCtorEq] at h
  case move x=>exact⟨_,fun w=>rfl,hev _ _ h⟩
  case assign x=>exact⟨_,fun w=>rfl,hev _ _ h⟩
  case pick c x y =>
    split at h
    · rename_i t ht
      have hc:=hev _ _ ht
      simp only[VR] at hc
      cases t
      · exact⟨ρ y,fun w=>by simp[execOp,hc,asBool,go_sem],hev _ _ h⟩
      · exact⟨ρ x,fun w=>by simp[execOp,hc,asBool,go_sem],hev _ _ h⟩
    · cases h
  case binOp op t x y ty =>
    split at h
    · rename_i a1 ha
      split at h
      · rename_i b1 hb
        split at h
        · exact Pc hev h
        · rename_i hn
          split at h
          · exact Q6x hev h
          · split at h
            · cases hc:(Region.isConst x||Region.isConst y) with
              |false=>rw[hc] at h;cases h
              |true =>
                rw[hc,cond_true] at h
                have hx:=hev _ _ ha
                have hy:=hev _ _ hb
                simp only[VR] at hx hy
                unfold Zb at h
                split at h
                · rename_i ms hu
                  have hg:∀w,(eqGuard op t x y .nilIface .nilIface).run P w = .ok () w:=by
                    intro w
                    unfold eqGuard
                    cases op<;>first
                      |rfl
                      |(simp only[Bool.not_true,Bool.false_eq_true,if_false];cases x<;>cases y<;>first|rfl|(simp[Region.isConst] at hc;done))
                  split at h
                  · cases h
                    refine⟨.bool true,fun w=>?_,by simp[VR]⟩
                    simp only[execOp]
                    refine Fw ?_
                    simp only[hx,hy,Sem.run_bind,hg,Result.andThen_ok,binOp,Op.equal,Op.maxDepth]
                    unfold Op.equalIn
                    simp[run_underlying hu,go_sem]
                  · cases h
                    refine⟨.bool false,fun w=>?_,by simp[VR]⟩
                    simp only[execOp]
                    refine Fw ?_
                    simp only[hx,hy,Sem.run_bind,hg,Result.andThen_ok,binOp,Op.equal,Op.maxDepth]
                    unfold Op.equalIn
                    simp[run_underlying hu,go_sem]
                  · cases h
                · cases h
            · obtain⟨v,hv,hr⟩:=Q3v h hn (hev _ _ ha) (hev _ _ hb) x y
              exact⟨v,fun w=>by simp only[execOp];exact Fw (hv w),hr⟩
          · obtain⟨v,hv,hr⟩:=Q3v h hn (hev _ _ ha) (hev _ _ hb) x y
            exact⟨v,fun w=>by simp only[execOp];exact Fw (hv w),hr⟩
      · cases h
    · cases h
  case unOp op t x=>exact Pc hev h
  case convert s d x =>
    split at h
    · rename_i l hl
      split at h
      · rename_i hu1
        split at h
        · rename_i hu
          cases h
          have hx:=hev _ _ hl
          simp only[VR] at hx
          refine⟨.string ⟨l.toArray⟩,fun w=>?_,VR.ofStr _⟩
          simp[execOp,convert,hx,run_underlying hu1,run_underlying hu,go_sem]
        · cases h
      · cases h
    · exact Pc hev h
    · cases h
  case makeInterface t x =>
    split at h
    · cases h
    · rename_i d hd hu
      split at h
      · rename_i a1 ha
        cases h
        refine⟨.iface t (ρ x),fun w=>?_,by simp only[VR];exact⟨_,hev _ _ ha,rfl⟩⟩
        simp only[execOp]
        refine Fw ?_
        cases d<;>first
          |(simp[Instr.makeInterface,run_underlying hu,go_sem];done)
          |exact(hd _ rfl).elim
      · cases h
    · cases h
  case makeFunc fn first cap =>
    split at h
    · rename_i f
      split at h
      · rename_i l hl
        split at h
        · rename_i m hm
          cases h
          have h1:=T9 hev hl
          have h2:=T9 hev hm
          refine⟨.func (.func f) (first.map ρ) (cap.map ρ),fun w=>rfl,?_⟩
          simp only[VR]
          refine⟨_,_,h1,h2,?_⟩
          congr 1<;>(apply Array.ext';simp)
        · cases h
      · cases h
    · cases h
  case extract x i =>
    split at h
    · rename_i l hl
      have hx:=hev _ _ hl
      simp only[VR] at hx
      obtain⟨vs,hvs,hx⟩:=hx
      obtain⟨v,hv,hr⟩:=hvs.get h
      exact⟨v,fun w=>by simp[execOp,Instr.extract,hx,hv,go_sem],hr⟩
    · cases h
  case nilCheck x =>
    split at h
    · rename_i b off hl
      cases h
      have hx:=hev _ _ hl
      have hx':=hx
      simp only[VR] at hx
      obtain⟨y,κ,_,hx⟩:=hx
      exact⟨ρ x,fun w=>by simp[execOp,hx,go_sem],hx'⟩
    · cases h
  case fieldAddr s x f =>
    split at h
    · rename_i b off hl
      split at h
      · rename_i fields hu
        split at h
        · rename_i fd hf
          split at h
          · rename_i n hn
            cases h
            have hx:=hev _ _ hl
            simp only[VR] at hx
            obtain⟨y,κ,hφ,hx⟩:=hx
            refine⟨.pointer (some ⟨y,off+fd.offset,none⟩),fun w=>?_,by simp only[VR];exact⟨y,κ,hφ,rfl⟩⟩
            have hf':fields[f]? = some fd:=by simpa using hf
            simp[execOp,Instr.fieldAt,Instr.sureAddr,fieldPlace,hx,run_underlying hu,hf',C3 hn,Eg,go_sem]
          · cases h
        · cases h
      · cases h
    · cases h
  case field s x f =>
    split at h
    · rename_i l hl
      split at h
      · rename_i fields hu
        split at h
        · rename_i fd hf
          have hx:=hev _ _ hl
          simp only[VR] at hx
          obtain⟨vs,hvs,hx⟩:=hx
          obtain⟨v,hv,hr⟩:=X5 h hvs
          have hf':fields[f]? = some fd:=by simpa using hf
          refine⟨v,fun w=>?_,hr⟩
          simp only[execOp]
          refine Fw ?_
          simp only[Instr.field,Sem.run_bind,run_underlying hu,Result.andThen_ok,hf',hx,asAgg,Sem.run_pure,hv]
        · cases h
      · cases h
    · cases h
  case indexAddr t x i =>
    split at h
    · rename_i a1 ha
      split at h
      · rename_i ia hia
        split at h
        · rename_i n hn
          obtain⟨kd,hi⟩:=L3 hn (hev _ _ hia)
          have hx:=hev _ _ ha
          split at h
          · rename_i e hu
            split at h
            · rename_i size hs
              split at h
              · rename_i b off len cap op
                cases hb:Nat.blt n len with
                |false=>rw[hb] at h;cases h
                |true =>
                  rw[hb,cond_true] at h;cases h
                  have hlt:n < len:=by simpa [Nat.blt_eq] using hb
                  simp only[VR] at hx
                  obtain⟨y,κ,hφ,hx⟩:=hx
                  have hx':∃c,ρ x = .slice (some ⟨y,off,none⟩) len c:=by
                    rcases hx with⟨_,_,hx⟩|⟨_,hx⟩<;>exact⟨_,hx⟩
                  obtain⟨c,hx'⟩:=hx'
                  refine⟨.pointer (some ⟨y,off+n*size,none⟩),fun w=>?_,by simp only[VR];exact⟨y,κ,hφ,rfl⟩⟩
                  have h1:(0:Int)≤(n:Int)∧(n:Int) < (len:Int):=by omega
                  simp[execOp,Instr.indexAt,asIntOf,hx',hi,run_underlying hu,C3 hs,h1,hlt,Eg,go_sem]
              · cases h
            · cases h
          · rename_i len e hu
            split at h
            · rename_i size hs
              split at h
              · rename_i b off
                cases hb:Nat.blt n len with
                |false=>rw[hb] at h;cases h
                |true =>
                  rw[hb,cond_true] at h;cases h
                  have hlt:n < len:=by simpa [Nat.blt_eq] using hb
                  simp only[VR] at hx
                  obtain⟨y,κ,hφ,hx⟩:=hx
                  refine⟨.pointer (some ⟨y,off+n*size,none⟩),fun w=>?_,by simp only[VR];exact⟨y,κ,hφ,rfl⟩⟩
                  have h1:(0:Int)≤(n:Int)∧(n:Int) < (len:Int):=by omega
                  simp[execOp,Instr.indexAt,Instr.sureAddr,asIntOf,hx,hi,run_underlying hu,C3 hs,h1,hlt,Eg,go_sem]
              · cases h
            · cases h
          · cases h
        · cases h
      · cases h
    · cases h
  case index t x i =>
    split at h
    · rename_i a1 ha
      split at h
      · rename_i ia hia
        split at h
        · rename_i n hn
          obtain⟨kd,hi⟩:=L3 hn (hev _ _ hia)
          have hx:=hev _ _ ha
          split at h
          · rename_i hu
            split at h
            · rename_i l
              split at h
              · rename_i u hlu
                cases h
                simp only[VR] at hx
                refine⟨.int .u8 (u.toNat:Int),fun w=>?_,by simp[VR]⟩
                have hlt:n < l.length:=(List.getElem?_eq_some_iff.1 hlu).1
                have hg:(⟨l.toArray⟩:ByteArray)[n]? = some u:=by
                  have hs:n < (⟨l.toArray⟩:ByteArray).size:=by rw[Hb];exact hlt
                  rw[getElem?_pos _ n hs]
                  have:((⟨l.toArray⟩:ByteArray)[n]'hs)=l[n]:=rfl
                  rw[this];rw[List.getElem?_eq_getElem hlt] at hlu;exact hlu
                simp only[execOp]
                refine Fw ?_
                simp[Instr.index,asIntOf,hx,hi,run_underlying hu,hg,go_sem]
              · cases h
            · cases h
          · rename_i len e hu
            split at h
            · rename_i l
              split at h
              · rename_i size hs
                cases hb:Nat.blt n len with
                |false=>rw[hb] at h;cases h
                |true =>
                  rw[hb,cond_true] at h
                  have hlt:n < len:=by simpa [Nat.blt_eq] using hb
                  simp only[VR] at hx
                  obtain⟨vs,hvs,hx⟩:=hx
                  obtain⟨v,hv,hr⟩:=X5 h hvs
                  refine⟨v,fun w=>?_,hr⟩
                  have h1:(0:Int)≤(n:Int)∧(n:Int) < (len:Int):=by omega
                  simp only[execOp]
                  refine Fw ?_
                  simp only[Instr.index,asIntOf,hx,hi,Sem.run_bind,Sem.run_pure,Result.andThen_ok,run_underlying hu]
                  rw[if_pos h1]
                  simp only[Sem.run_bind,C3 hs,Result.andThen_ok,Int.toNat_natCast,hv]
              · cases h
            · cases h
          · cases h
        · cases h
      · cases h
    · cases h
  case slice t x lo hi mx =>
    split at h
    · rename_i a1 ha
      obtain⟨v,hv,hr⟩:=Q6p h (hev _ _ ha) (S5 hev lo) (S5 hev hi) (S5 hev mx)
      exact⟨v,fun w=>by simp only[execOp];exact Fw (hv w),hr⟩
    · cases h
  case build t parts =>
    split at h
    · rename_i ps hps
      have hp:=Ua hev hps
      obtain⟨v,hv,hr⟩:=X5m (qs:=parts.map fun (i,x)=>(i,ρ x)) h (by simpa using hp)
      exact⟨v,fun w=>by simp only[execOp];exact Fw (hv w),hr⟩
    · cases h
  case typeAssert x xt t ok =>
    split at h
    · rename_i u a1 hl
      have hx:=hev _ _ hl
      simp only[VR] at hx
      obtain⟨y,hy,hx⟩:=hx
      split at h
      · cases h
      · rename_i d hd hu
        have hni:∀ms,d ≠ .interface ms:=fun ms e=>hd ms e
        rcases Du u t with⟨q,rfl⟩|⟨q,q'⟩
        · rw[q,cond_true] at h;cases h
          cases ok
          · refine⟨y,fun w=>?_,hy⟩
            simp only[execOp]
            refine Fw ?_
            cases d<;>first
              |(simp[Instr.typeAssert,hx,run_underlying hu,go_sem];done)
              |exact(hni _ rfl).elim
          · refine⟨.tuple #[y,.bool true],fun w=>?_,by simp only[VR,cond_true];exact⟨[y,.bool true],.cons hy (.cons (by simp[VR]) .nil),rfl⟩⟩
            simp only[execOp]
            refine Fw ?_
            cases d<;>first
              |(simp[Instr.typeAssert,hx,run_underlying hu,go_sem];done)
              |exact(hni _ rfl).elim
        · rw[q,cond_false] at h
          cases ok
          · cases h
          · rw[cond_true] at h
            split at h
            · rename_i z hz
              cases h
              obtain⟨zv,hzv,hzr⟩:=J9 (φ:=φ) hz
              refine⟨.tuple #[zv,.bool false],fun w=>?_,by simp only[VR];exact⟨[zv,.bool false],.cons hzr (.cons (by simp[VR]) .nil),rfl⟩⟩
              simp only[execOp]
              refine Fw ?_
              cases d<;>first
                |(simp[Instr.typeAssert,hx,run_underlying hu,q',hzv,go_sem];done)
                |exact(hni _ rfl).elim
            · cases h
      · cases h
    · rename_i hl
      have hx:=hev _ _ hl
      simp only[VR] at hx
      split at h
      · cases h
      · rename_i d hd hu
        cases ok
        · cases h
        · rw[cond_true] at h
          split at h
          · rename_i z hz
            cases h
            obtain⟨zv,hzv,hzr⟩:=J9 (φ:=φ) hz
            refine⟨.tuple #[zv,.bool false],fun w=>?_,by simp only[VR];exact⟨[zv,.bool false],.cons hzr (.cons (by simp[VR]) .nil),rfl⟩⟩
            simp only[execOp]
            refine Fw ?_
            cases d<;>first
              |(simp only[Instr.typeAssert,hx,Sem.run_bind,run_underlying hu,Result.andThen_ok,if_true,hzv,Sem.run_pure];done)
              |exact(hd _ rfl).elim
          · cases h
      · cases h
    · cases h
  case call c =>
    obtain⟨callee,args,argTypes⟩:=c
    simp only at h
    have lens:∀(x:Operand) (t:Nat),args.toList=[x]→argTypes.toList=[t]→args = #[x]∧argTypes = #[t]:=fun x t h1 h2=>⟨by apply Array.ext';simpa using h1,by apply Array.ext';simpa using h2⟩
    split at h
    · split at h
      · rename_i x hxs
        split at h
        · rename_i t hts
          obtain⟨rfl,rfl⟩:=lens x t hxs hts
          split at h<;>first|cases h|skip
          · rename_i l hl
            split at h<;>first|cases h|skip
            rename_i hu
            have hx:=hev _ _ hl
            simp only[VR] at hx
            exact⟨.int .i64 (l.length:Int),fun w=>by simp[execOp,resolve,invoke,builtin,Builtin.len_,hx,run_underlying hu,goInt,Hb,go_sem],by simp[VR]⟩
          · rename_i b off len cap op hl
            split at h<;>first|cases h|skip
            rename_i e hu
            have hx:=hev _ _ hl
            simp only[VR] at hx
            obtain⟨y,κ,hφ,hx⟩:=hx
            have hx':∃c,ρ x = .slice (some ⟨y,off,none⟩) len c:=by
              rcases hx with⟨_,_,hx⟩|⟨_,hx⟩<;>exact⟨_,hx⟩
            obtain⟨c,hx'⟩:=hx'
            exact⟨.int .i64 (len:Int),fun w=>by simp[execOp,resolve,invoke,builtin,Builtin.len_,hx',run_underlying hu,goInt,go_sem],by simp[VR]⟩
          · rename_i hl
            split at h<;>first|cases h|skip
            rename_i e hu
            have hx:=hev _ _ hl
            simp only[VR] at hx
            exact⟨.int .i64 ((0:Nat):Int),fun w=>by simp[execOp,resolve,invoke,builtin,Builtin.len_,hx,run_underlying hu,goInt,go_sem],by simp[VR]⟩
          · rename_i hl
            split at h<;>first|cases h|skip
            rename_i e hu
            have hx:=hev _ _ hl
            simp only[VR] at hx
            obtain⟨p,c,hx⟩:=hx
            exact⟨.int .i64 ((0:Nat):Int),fun w=>by simp[execOp,resolve,invoke,builtin,Builtin.len_,hx,run_underlying hu,goInt,go_sem],by simp[VR]⟩
          · rename_i hl
            split at h<;>first|cases h|skip
            rename_i k e hu
            have hx:=hev _ _ hl
            simp only[VR] at hx
            exact⟨.int .i64 ((0:Nat):Int),fun w=>by simp[execOp,resolve,invoke,builtin,Builtin.len_,hx,run_underlying hu,goInt,go_sem],by simp[VR]⟩
        · cases h
      · cases h
    · split at h
      · rename_i x hxs
        split at h
        · rename_i t hts
          obtain⟨rfl,rfl⟩:=lens x t hxs hts
          split at h<;>first|cases h|skip
          · rename_i b off len cap hl
            split at h<;>first|cases h|skip
            rename_i e hu
            have hx:=hev _ _ hl
            simp only[VR] at hx
            obtain⟨y,κ,hφ,⟨q,_⟩|⟨_,hx⟩⟩:=hx
            · cases q
            exact⟨.int .i64 (cap:Int),fun w=>by simp[execOp,resolve,invoke,builtin,Builtin.cap_,hx,run_underlying hu,goInt,go_sem],by simp[VR]⟩
          · rename_i hl
            split at h<;>first|cases h|skip
            rename_i e hu
            have hx:=hev _ _ hl
            simp only[VR] at hx
            exact⟨.int .i64 ((0:Nat):Int),fun w=>by simp[execOp,resolve,invoke,builtin,Builtin.cap_,hx,run_underlying hu,goInt,go_sem],by simp[VR]⟩
        · cases h
      · cases h
    all_goals first|exact Pc hev h|exact X2q hev h|cases h
end
end Sv
end
section
open Go Go.RowKit
namespace Sv
inductive AO where
  |row (c:List AV) (e:Nat)
  |grow (es:List AV) (e sz:Nat)
  |map (es:List (AV × AV × Nat)) (clk:Nat)
  |siter (s:List UInt8) (p:Nat)
  |mm (g:List UInt8→List AV) (hole:Option (List UInt8)) (e sz:Nat)
abbrev AH:=List (Nat × AO)
noncomputable def Bh (b:Nat):AH→Option AO
  |[]=>none
  |(k,o)::r=>bif Nat.beq k b then some o else Bh b r
noncomputable def Ch (b:Nat) (o:AO):AH→AH
  |[]=>[(b,o)]
  |(k,x)::r=>bif Nat.beq k b then (k,o)::r else (k,x)::Ch b o r
noncomputable def Da (b:Nat):AH→AH
  |[]=>[]
  |(k,x)::r=>bif Nat.beq k b then Da b r else (k,x)::Da b r
theorem Hl (b:Nat) (o:AO):∀h:AH,Bh b (Ch b o h)=some o
  |[]=>by simp only[Ch,Bh,Nat.beq_refl,cond_true]
  |(k,x)::r=>by
    rcases Du k b with⟨e,_⟩|⟨e,_⟩<;>simp only[Ch,e,cond_true,cond_false,Bh]
    exact Hl b o r
theorem G5 {b c:Nat} (o:AO) (hne:c≠b):∀h:AH,Bh c (Ch b o h)=Bh c h
  |[]=>by simp only[Ch,Bh,Hp (Ne.symm hne),cond_false]
  |(k,x)::r=>by
    rcases Du k b with⟨e,h1⟩|⟨e,_⟩
    · subst h1;simp only[Ch,Nat.beq_refl,cond_true,Bh,Hp (Ne.symm hne),cond_false]
    · simp only[Ch,e,cond_false,Bh,G5 o hne r]
theorem Tw (b:Nat):∀h:AH,Bh b (Da b h)=none
  |[]=>rfl
  |(k,x)::r=>by
    rcases Du k b with⟨e,_⟩|⟨e,_⟩<;>simp only[Da,e,cond_true,cond_false,Bh]
    · exact Tw b r
    · exact Tw b r
theorem H7 {b c:Nat} (hne:c≠b):∀h:AH,Bh c (Da b h)=Bh c h
  |[]=>rfl
  |(k,x)::r=>by
    rcases Du k b with⟨e,h1⟩|⟨e,_⟩
    · subst h1;simp only[Da,Nat.beq_refl,cond_true,Bh,Hp (Ne.symm hne),cond_false,H7 hne r]
    · simp only[Da,e,cond_false,Bh,H7 hne r]
theorem Dx {b c:Nat} {o:AO} {h:AH} (k:Bh c (Da b h)=some o):c≠b∧Bh c h=some o:=by
  by_cases e:c=b
  · subst e;rw[Tw] at k;cases k
  · rw[H7 e] at k;exact⟨e,k⟩
def MR (φ:Phi):List (AV × AV × Nat)→List MapEntry→Prop
  |[],l=>l=[]
  |(k,v,n)::es,l=>∃e l',l=e::l'∧VR φ k e.key∧VR φ v e.val∧e.born=n∧MR φ es l'
theorem MR.imp {φ φ':Phi}:∀{es:List (AV × AV × Nat)} {l:List MapEntry},(∀a v n,(a,v,n)∈es→(∀u,VR φ a u→VR φ' a u)∧(∀u,VR φ v u→VR φ' v u))→MR φ es l→MR φ' es l
  |[],_,_,k=>k
  |(a,v,n)::es,_,h,k=>by
    simp only[MR] at k ⊢
    obtain⟨e,l',r,x,y,c,d⟩:=k
    have h0:=h a v n (by simp)
    exact⟨e,l',r,h0.1 _ x,h0.2 _ y,c,MR.imp (fun a v n hm=>h a v n (by simp[hm])) d⟩
theorem MR.mono {φ φ':Phi} (h:φ.le φ') {es:List (AV × AV × Nat)} {l:List MapEntry} (k:MR φ es l):MR φ' es l:=MR.imp (fun _ _ _ _=>⟨fun _=>VR.mono h,fun _=>VR.mono h⟩) k
structure Bas where
  w:World
  old:Nat→Prop
  lt:∀k,old k→k < w.heap.size
structure Bel (B:Bas) (w:World):Prop where
  os:w.os=B.w.os
  tape:w.tape=B.w.tape
  output:w.output=B.w.output
  size:B.w.heap.size≤w.heap.size
  block:∀k,B.old k→w.heap[k]? = B.w.heap[k]?
theorem Bel.lt {B:Bas} {w:World} (h:Bel B w) {k:Nat} (hk:B.old k):k < w.heap.size:=Nat.lt_of_lt_of_le (B.lt k hk) h.size
theorem Bel.fresh {B:Bas} {w:World} (h:Bel B w):¬B.old w.heap.size:=fun k=>Nat.lt_irrefl _ (h.lt k)
theorem Bel.to {B:Bas} {w w':World} (h:Bel B w) (hos:w'.os=w.os) (htape:w'.tape=w.tape) (hout:w'.output=w.output) (hsize:w.heap.size≤w'.heap.size) (hb:∀k,B.old k→w'.heap[k]? = w.heap[k]?):Bel B w' :=
  ⟨hos.trans h.os,htape.trans h.tape,hout.trans h.output,Nat.le_trans h.size hsize,fun k hk=>(hb k hk).trans (h.block k hk)⟩
theorem Bel.go {B:Bas} {w w':World} (h:Bel B w) (b:Below w.heap.size w w'):Bel B w':=h.to b.os b.tape b.output b.size fun k hk=>b.block k (h.lt hk)
def Fk (hole:Option (List UInt8)) (m:List (List UInt8 × Value)):Value:=.tuple ((m.filter fun p=>decide (some p.1≠hole)).map (·.2)).toArray
def At (B:Bas) (φ:Phi) (w:World) (b:Nat):AO→Prop
  |.row c e=>∃x κ vs,φ b=some (x,κ)∧w.heap[x]? = some (.cells vs e (0,0))∧VRl φ c vs.toList
  |.grow es e sz=>∃v vs,φ.s b=some v∧w.ownsRow 0 e sz v es.length (vs.flatMap fun u=>u.cells.toList)∧VRl φ.fz es vs∧∀u∈vs,u.cells.size=sz∧∀c∈u.cells.toList,c.oneCell'=true
  |.map es clk=>∃x κ l,φ b=some (x,κ)∧w.heap[x]? = some (.map l clk)∧MR φ.fz es l.toList
  |.siter s p=>∃x κ,φ b=some (x,κ)∧w.heap[x]? = some (.stringIter ⟨s.toArray⟩ p)
  | .mm g hole e sz => ∃ x κ es clk m, φ b = some (x, κ) ∧ w.heap[x]? = some (.map es clk) ∧ es.toList.map (fun e => (e.key, e.val)) = D6 S id m ∧ Once m ∧ φ.s b = some (Fk hole m) ∧
      (∀s u,Bx m s=some u→some s≠hole→∃vs,w.ownsRow 0 e sz u (g s).length (vs.flatMap fun u=>u.cells.toList)∧VRl φ.fz (g s) vs∧∀u∈vs,u.cells.size=sz∧∀c∈u.cells.toList,c.oneCell'=true) ∧
      (∀s,Bx m s=none→g s=[]) ∧
      (∀s u,Bx m s=some u→some s≠hole→u.ownBlock≠some x) ∧
      ∀s s' u u' k,Bx m s=some u→Bx m s'=some u'→some s≠hole→some s'≠hole→u.ownBlock=some k→u'.ownBlock=some k→s=s'
def img (φ:Phi) (b:Nat):AO→Nat→Prop
  |.grow _ _ _,k=>(φ.s b).bind Value.ownBlock=some k
  |.mm _ _ _ _,k=>(φ b).map (·.1)=some k∨∃l,φ.s b=some (.tuple l)∧∃u∈l.toList,u.ownBlock=some k
  |_,k=>(φ b).map (·.1)=some k
noncomputable def Mf:AO→Bool
  |.grow _ _ _=>false
  |.mm _ _ _ _=>false
  |_=>true
theorem Pe {hole:Option (List UInt8)} {m:List (List UInt8 × Value)} (ho:Once m) {s:List UInt8} {u:Value} (h:Bx m s=some u) (hs:some s≠hole):∃l,Fk hole m = .tuple l∧u∈l.toList:=by
  refine⟨_,rfl,?_⟩
  obtain⟨p,h1,rfl⟩:=Option.map_eq_some_iff.1 h
  have hm:=List.mem_of_find?_eq_some h1
  have hp:s=p.1:=by simpa using List.find?_some h1
  simp only[List.mem_map,List.mem_filter]
  exact⟨p,⟨hm,by rw[←hp];simpa using hs⟩,rfl⟩
theorem X6e {m:List (List UInt8 × Value)} (ho:Once m) {p:List UInt8 × Value} (h:p∈m):Bx m p.1=some p.2:=by
  unfold Bx
  induction m with
  |nil=>cases h
  |cons q r ih =>
    unfold Once at ho
    rw[List.map_cons,List.nodup_cons] at ho
    rw[List.find?_cons]
    rcases List.mem_cons.1 h with rfl|h
    · simp
    · have hne:¬p.1=q.1:=fun e=>ho.1 (by rw[←e];exact List.mem_map.2 ⟨p,h,rfl⟩)
      simp only[hne,decide_false]
      exact ih ho.2 h
theorem Sd {hole:Option (List UInt8)} {m:List (List UInt8 × Value)} (ho:Once m) {l:Array Value} {u:Value} (h:Fk hole m = .tuple l) (hu:u∈l.toList):∃s,Bx m s=some u∧some s≠hole:=by
  unfold Fk at h
  have:=(Value.tuple.inj h).symm;subst this
  simp only[List.mem_map,List.mem_filter] at hu
  obtain⟨p,⟨h1,h2⟩,rfl⟩:=hu
  exact⟨p.1,X6e ho h1,by simpa using h2⟩
structure Rel (B:Bas) (φ:Phi) (h:AH) (w:World):Prop where
  below:Bel B w
  fro:∀b o,φ.f b=some o→w.heap[b]? = some o
  obj:∀b o,Bh b h=some o→At B φ w b o
  sep:∀b b' o o' k,Bh b h=some o→Bh b' h=some o'→img φ b o k→img φ b' o' k→b=b'
  gf:∀b o k,Bh b h=some o→img φ b o k→¬B.old k∧k < w.heap.size∧φ.f k=none
theorem Lw {w w':World} {base size n:Nat} {e:TypeId} {v:Value} {xs:List Value} (h:w.ownsRow base e size v n xs) (hk:∀k,v.ownBlock=some k→w'.heap[k]? = w.heap[k]?):w'.ownsRow base e size v n xs:=by
  refine⟨h.1,h.2.imp id ?_⟩
  rintro⟨g,cap,cur,rfl,a,b,r⟩
  exact⟨g,cap,cur,rfl,a,(hk g rfl).trans b,r⟩
theorem Fc {w:World} {k:Nat} {o:Obj} (h:w.heap[k]? = some o):k < w.heap.size:=(Array.getElem?_eq_some_iff.1 h).1
section
variable {B : Bas} {φ φ' : Phi} {h : AH} {w w' : World}
def SameO (φ φ':Phi) (b:Nat):AO→Prop
  |.row c _=>φ' b=φ b∧∀vs,VRl φ c vs→VRl φ' c vs
  |.grow _ _ _=>φ'.s b=φ.s b∧∀k o,φ.f k=some o→φ'.f k=some o
  |.map _ _=>φ' b=φ b∧∀k o,φ.f k=some o→φ'.f k=some o
  |.siter _ _=>φ' b=φ b
  |.mm _ _ _ _=>φ' b=φ b∧φ'.s b=φ.s b∧∀k o,φ.f k=some o→φ'.f k=some o
theorem SameO.img {b:Nat} {o:AO} (k:SameO φ φ' b o):img φ' b o=Sv.img φ b o:=by
  funext j
  cases o<;>simp only[SameO] at k<;>simp only[Sv.img]<;>first|rw[k.1,k.2.1]|rw[k.1]|rw[k]
theorem D8 (h:∀k o,φ.f k=some o→φ'.f k=some o):φ.fz.le φ'.fz:=⟨fun _ _ e=>(by cases e),fun _ _ e=>(by cases e),h⟩
theorem At.imp {b:Nat} {o:AO} (k:At B φ w b o) (s:SameO φ φ' b o) (hw:∀j,Sv.img φ b o j→w'.heap[j]? = w.heap[j]?):At B φ' w' b o:=by
  cases o with
  |row c e =>
    obtain⟨x,κ,vs,h1,h2,h3⟩:=k
    exact⟨x,κ,vs,by rw[s.1,h1],(hw x (by simp[Sv.img,h1])).trans h2,s.2 _ h3⟩
  |grow es e sz =>
    obtain⟨v,vs,h1,h2,h3,h4⟩:=k
    exact⟨v,vs,by rw[s.1,h1],Lw h2 (fun j hj=>hw j (by simp[Sv.img,h1,hj])),h3.mono (D8 s.2),h4⟩
  |map es clk =>
    obtain⟨x,κ,l,h1,h2,h3⟩:=k
    exact⟨x,κ,l,by rw[s.1,h1],(hw x (by simp[Sv.img,h1])).trans h2,h3.mono (D8 s.2)⟩
  |siter t p =>
    obtain⟨x,κ,h1,h2⟩:=k
    exact⟨x,κ,by rw[show φ' b=φ b from s,h1],(hw x (by simp[Sv.img,h1])).trans h2⟩
  |mm g hole e sz =>
    obtain⟨x,κ,es,clk,m,h1,h2,h3,h4,h5,h6,h7,h8,h9⟩:=k
    refine⟨x,κ,es,clk,m,by rw[s.1,h1],(hw x (.inl (by rw[h1];rfl))).trans h2,h3,h4,by rw[s.2.1,h5],fun t u hu ht=>?_,h7,h8,h9⟩
    obtain⟨vs,a1,a2,a3⟩:=h6 t u hu ht
    obtain⟨l,b1,b2⟩:=Pe h4 hu ht
    exact⟨vs,Lw a1 (fun j hj=>hw j (.inr ⟨l,by rw[h5,b1],u,b2,hj⟩)),a2.mono (D8 s.2.2),a3⟩
theorem Rel.frame (r : Rel B φ h w) (hs : ∀ b o, Bh b h = some o → SameO φ φ' b o) (hb : Bel B w') (hsz : w.heap.size ≤ w'.heap.size) (hf : ∀ b o, φ'.f b = some o → w'.heap[b]? = some o)
    (hk:∀b o k,Bh b h=some o→img φ b o k→w'.heap[k]? = w.heap[k]? ∧ φ'.f k=none):Rel B φ' h w' :=
  ⟨hb,hf,fun b o e=>(r.obj b o e).imp (hs b o e) (fun j hj=>(hk b o j e hj).1),
   fun b b' o o' k e e' i i'=>r.sep b b' o o' k e e' (by rw[←(hs b o e).img];exact i) (by rw[←(hs b' o' e').img];exact i'),
   fun b o k e i=>by
    rw[(hs b o e).img] at i
    have:=r.gf b o k e i
    exact⟨this.1,Nat.lt_of_lt_of_le this.2.1 hsz,(hk b o k e i).2⟩⟩
theorem Rel.del (r:Rel B φ h w) (b:Nat):Rel B φ (Da b h) w :=
  ⟨r.below,r.fro,fun c o e=>r.obj c o (Dx e).2,fun c c' o o' k e e'=>r.sep c c' o o' k (Dx e).2 (Dx e').2,fun c o k e=>r.gf c o k (Dx e).2⟩
theorem Rel.add (r:Rel B φ h w) {b:Nat} {o:AO} (ha:At B φ w b o) (hi:∀k,img φ b o k→¬B.old k∧k < w.heap.size∧φ.f k=none∧∀c o',c≠b→Bh c h=some o'→¬img φ c o' k):Rel B φ (Ch b o h) w:=by
  have key:∀c o',Bh c (Ch b o h)=some o'→(c=b∧o'=o)∨(c≠b∧Bh c h=some o'):=by
    intro c o' e
    by_cases hc:c=b
    · subst hc;rw[Hl] at e;cases e;exact .inl ⟨rfl,rfl⟩
    · rw[G5 o hc] at e;exact .inr ⟨hc,e⟩
  refine⟨r.below,r.fro,?_,?_,?_⟩
  · intro c o' e
    rcases key c o' e with⟨rfl,rfl⟩|⟨_,e⟩
    · exact ha
    · exact r.obj c o' e
  · intro c c' o1 o2 k e1 e2 i1 i2
    rcases key c o1 e1 with⟨rfl,rfl⟩|⟨n1,f1⟩<;>rcases key c' o2 e2 with⟨rfl,rfl⟩|⟨n2,f2⟩
    · rfl
    · exact absurd i2 ((hi k i1).2.2.2 c' o2 n2 f2)
    · exact absurd i1 ((hi k i2).2.2.2 c o1 n1 f1)
    · exact r.sep c c' o1 o2 k f1 f2 i1 i2
  · intro c o' k e i
    rcases key c o' e with⟨rfl,rfl⟩|⟨_,e⟩
    · exact⟨(hi k i).1,(hi k i).2.1,(hi k i).2.2.1⟩
    · exact r.gf c o' k e i
theorem SameO.of_le (hle:φ.le φ') {b:Nat} {o:AO} (ha:At B φ w b o):SameO φ φ' b o:=by
  cases o with
  |row c e=>obtain⟨x,κ,vs,h1,_⟩:=ha;exact⟨by rw[h1];exact hle.m _ _ h1,fun _ k=>k.mono hle⟩
  |grow es e sz=>obtain⟨v,us,h1,_⟩:=ha;exact⟨by rw[h1];exact hle.s _ _ h1,hle.f⟩
  |map es clk=>obtain⟨x,κ,l,h1,_⟩:=ha;exact⟨by rw[h1];exact hle.m _ _ h1,hle.f⟩
  |siter t p=>obtain⟨x,κ,h1,_⟩:=ha;show φ' b=φ b;rw[h1];exact hle.m _ _ h1
  |mm g hole e sz=>obtain⟨x,κ,es,clk,m,h1,_,_,_,h5,_⟩:=ha;exact⟨by rw[h1];exact hle.m _ _ h1,by rw[h5];exact hle.s _ _ h5,hle.f⟩
theorem Rel.go (r:Rel B φ h w) (hle:φ.le φ') (hb:Below w.heap.size w w') (hf:∀b o,φ'.f b=some o→w'.heap[b]? = some o) (hn:∀b o,φ'.f b=some o→φ.f b=some o∨w.heap.size≤b):Rel B φ' h w' :=
  r.frame (fun b o e=>SameO.of_le hle (r.obj b o e)) (r.below.go hb) hb.size hf fun b o k e i=>by
    have:=r.gf b o k e i
    refine⟨hb.block k this.2.1,?_⟩
    cases hx:φ'.f k with
    |none=>rfl
    |some x =>
      rcases hn k x hx with q|q
      · rw[this.2.2] at q;cases q
      · omega
theorem Rel.drew (r:Rel B φ h w) {k:Nat}:Rel B φ h (w.drewN k) :=
  ⟨⟨r.below.os,r.below.tape,r.below.output,r.below.size,r.below.block⟩,r.fro,fun b o e=>by have:=r.obj b o e;cases o<;>exact this,r.sep,r.gf⟩
def Phi.ext (φ:Phi) (b x:Nat):Phi:=⟨fun i=>if i=b then some (x,0) else φ i,φ.s,φ.f⟩
theorem Phi.ext_same (φ:Phi) (b x:Nat):(φ.ext b x) b=some (x,0):=if_pos rfl
theorem Phi.ext_le {φ:Phi} {b x:Nat} (h:φ b=none):φ.le (φ.ext b x) :=
  ⟨fun i y e=>by show(if i=b then _ else _)=_;rw[if_neg (by rintro rfl;rw[h] at e;cases e)];exact e,fun _ _ e=>e,fun _ _ e=>e⟩
theorem Rel.alloc (r:Rel B φ h w) {b:Nat} (hb:φ b=none) {o:AO} {ob:Obj} (hng:Mf o=true) (ha:At B (φ.ext b w.heap.size) (w.alloc ob) b o):Rel B (φ.ext b w.heap.size) (Ch b o h) (w.alloc ob):=by
  have h1:Rel B (φ.ext b w.heap.size) h (w.alloc ob):=r.go (Phi.ext_le hb) ((Below.refl _ w).alloc (Nat.le_refl _) ob) (fun c o' e=>(heap_alloc_old w ob (Fc (r.fro c o' e))).trans (r.fro c o' e)) (fun c o' e => .inl e)
  refine h1.add ha fun k hk=>?_
  have hk':k=w.heap.size:=by
    cases o with
    |grow=>cases hng
    |mm=>cases hng
    |_=>simp only[img,Phi.ext_same,Option.map_some,Option.some.injEq] at hk;exact hk.symm
  subst hk'
  refine⟨r.below.fresh,by simp,?_,fun c o' hc e i=>?_⟩
  · show φ.f w.heap.size=none
    cases hx:φ.f w.heap.size with
    |none=>rfl
    |some x=>have:=Fc (r.fro _ _ hx);omega
  · have s:SameO φ (φ.ext b w.heap.size) c o':=SameO.of_le (Phi.ext_le hb) (r.obj c o' e)
    rw[s.img] at i
    have:=(r.gf c o' _ e i).2.1;omega
theorem Rel.set (r : Rel B φ h w) {b x κ : Nat} {o o' : AO} (hb : Bh b h = some o) (hg : Mf o = true) (hg' : Mf o' = true) (hx : φ b = some (x, κ))
    (hos:w'.os=w.os) (htape:w'.tape=w.tape) (hout:w'.output=w.output) (hsize:w'.heap.size=w.heap.size) (hother:∀j,j≠x→w'.heap[j]? = w.heap[j]?) (ha:At B φ w' b o'):Rel B φ (Ch b o' h) w':=by
  have hi:img φ b o x:=by
    cases o with
    |grow=>cases hg
    |mm=>cases hg
    |_=>simp[img,hx]
  have hxx:=r.gf b o x hb hi
  have h1:Rel B φ (Da b h) w':=(r.del b).frame (fun c o1 e=>SameO.of_le (Phi.le_refl φ) (r.obj c o1 (Dx e).2)) (r.below.to hos htape hout (by rw[hsize];exact Nat.le_refl _) fun j hj=>hother j (by rintro rfl;exact hxx.1 hj)) (by rw[hsize];exact Nat.le_refl _)
    (fun c o1 e=>by rw[hother c (by rintro rfl;rw[hxx.2.2] at e;cases e)];exact r.fro c o1 e)
    (fun c o1 k e i=>by
      have e':=Dx e
      exact⟨hother k (by rintro rfl;exact e'.1 (r.sep c b o1 o k e'.2 hb i hi)),(r.gf c o1 k e'.2 i).2.2⟩)
  have h2:Rel B φ (Ch b o' (Da b h)) w':=h1.add ha fun k hk=>by
    have:k=x:=by
      cases o' with
      |grow=>cases hg'
      |mm=>cases hg'
      |_=>simp[img,hx] at hk;exact hk.symm
    subst this
    exact⟨hxx.1,by rw[hsize];exact hxx.2.1,hxx.2.2,fun c o1 hc e i=>hc (r.sep c b o1 o k (Dx e).2 hb i hi)⟩
  have key:∀c,Bh c (Ch b o' (Da b h))=Bh c (Ch b o' h):=by
    intro c
    by_cases hc:c=b
    · subst hc;rw[Hl,Hl]
    · rw[G5 _ hc,G5 _ hc,H7 hc]
  exact⟨h2.below,h2.fro,fun c o1 e=>h2.obj c o1 (by rw[key];exact e),fun c c' o1 o2 k e e'=>h2.sep c c' o1 o2 k (by rw[key];exact e) (by rw[key];exact e'),fun c o1 k e=>h2.gf c o1 k (by rw[key];exact e)⟩
end
end Sv
end
section
open Go Go.RowKit
namespace Sv
theorem X73 {P : Program} {n : Nat} {σ : Nat → Value} {w : World} {dst : Option Tmp} {x y : Operand} {t t' ty : TypeId} {ps : String} {af : Array Edge} {g : Option (Nat × Bool)} {k : IntKind} {a b : Int}
    (hx:ev n σ x = .int k a) (hy:ev n σ y = .int k b) (hr:b≠0∧kLo k≤a.tdiv b∧a.tdiv b≤kHi k):(execOp (ev n σ) ⟨dst,.binOp .quo t x y t',ty,ps,af,g⟩).run P w = .ok (.value (.int k (a.tdiv b))) w:=by
  have h1:=hr.1
  have h2:=Lf k _ hr.2
  simp[execOp,hx,hy,go_sem,Op.intDiv,h1,h2]
theorem X72 {P : Program} {n : Nat} {σ : Nat → Value} {w : World} {dst : Option Tmp} {x y : Operand} {t t' ty : TypeId} {ps : String} {af : Array Edge} {g : Option (Nat × Bool)} {k : IntKind} {a b : Int}
    (hx:ev n σ x = .int k a) (hy:ev n σ y = .int k b) (hr:b≠0):(execOp (ev n σ) ⟨dst,.binOp .rem t x y t',ty,ps,af,g⟩).run P w = .ok (.value (.int k (a.tmod b))) w:=by
  simp[execOp,hx,hy,go_sem,Op.intDiv,hr]
section
variable (P : Program) (ev : Operand → Option AV)
noncomputable def kEq (k k':IntKind):Bool:=match k,k' with
  |.i8,.i8 | .i16,.i16 | .i32,.i32 | .i64,.i64 | .u8,.u8 | .u16,.u16 | .u32,.u32 | .u64,.u64=>true
  |_,_=>false
theorem Tm {k k':IntKind} (h:kEq k k'=true):k=k':=by cases k<;>cases k'<;>first|rfl|cases h
noncomputable def Q4 (t:Nat):Bool:=match P.underlying t with
  |some .bool=>true
  |_=>false
noncomputable def Ll (t:Nat):Bool:=match P.underlying t with
  |some .string=>true
  |_=>false
noncomputable def P7 (t:Nat):Option IntKind:=match P.underlying t with
  |some (.int k)=>some k
  |_=>none
noncomputable def Fa (t:Nat):Option Nat:=match P.underlying t with
  |some (.slice e)=>some e
  |_=>none
theorem Q3q {P:Program} {t:Nat} (h:Q4 P t=true):P.underlying t=some .bool:=by unfold Q4 at h;split at h<;>first|assumption|cases h
theorem O3 {P:Program} {t:Nat} (h:Ll P t=true):P.underlying t=some .string:=by unfold Ll at h;split at h<;>first|assumption|cases h
theorem Q0e {P:Program} {t:Nat} {k:IntKind} (h:P7 P t=some k):P.underlying t=some (.int k):=by
  unfold P7 at h
  split at h
  · rename_i k' hk;cases h;exact hk
  · cases h
theorem D1 {P:Program} {t e:Nat} (h:Fa P t=some e):P.underlying t=some (.slice e):=by
  unfold Fa at h
  split at h
  · rename_i k' hk;cases h;exact hk
  · cases h
abbrev PC:=Option (AV × Option Prop)
noncomputable def Q0m (op:BinOp) (k:IntKind) (a b:Int):PC:=match op with
  |.add=>some (.int k (a+b),some (kLo k≤a+b∧a+b≤kHi k))
  |.sub=>some (.int k (a-b),some (kLo k≤a-b∧a-b≤kHi k))
  |.mul=>some (.int k (a*b),some (kLo k≤a*b∧a*b≤kHi k))
  |.quo=>some (.int k (a.tdiv b),some (b≠0∧kLo k≤a.tdiv b∧a.tdiv b≤kHi k))
  |.rem=>some (.int k (a.tmod b),some (b≠0))
  |.lss=>some (.bool (decide (a < b)),none)
  |.leq=>some (.bool (decide (a≤b)),none)
  |.gtr=>some (.bool (decide (b < a)),none)
  |.geq=>some (.bool (decide (b≤a)),none)
  |.eql=>some (.bool (decide (a=b)),none)
  |.neq=>some (.bool (!decide (a=b)),none)
  |_=>none
noncomputable def Wo (op:BinOp) (l m:List UInt8):PC:=match op with
  |.add=>some (.str (l++m),some (l.length+m.length≤9223372036854775807))
  |.lss=>some (.bool (Op.bytesLess l m),none)
  |.eql=>some (.bool (decide (l=m)),none)
  |.neq=>some (.bool (!decide (l=m)),none)
  |_=>none
noncomputable def Q3r (op:BinOp) (t:Nat) (a b:Bool):PC:=match op with
  |.eql=>bif Q4 P t then some (.bool (a == b),none) else none
  |.neq=>bif Q4 P t then some (.bool (!(a == b)),none) else none
  |_=>none
noncomputable def Q3u (op:BinOp) (t:Nat) (x y:Operand):PC:=match ev x,ev y with
  |some (.int k a),some (.int k' b)=>bif kEq k k' then Q0m op k a b else none
  |some (.str l),some (.str m)=>Wo op l m
  |some (.bool a),some (.bool b)=>Q3r P op t a b
  |_,_=>none
noncomputable def I9 (a b:Option Prop):Option Prop:=match a,b with
  |none,b=>b
  |a,none=>a
  |some p,some q=>some (p∧q)
noncomputable def Bn:Option Prop→Prop
  |none=>True
  |some p=>p
theorem Oh {a b:Option Prop} (h:Bn (I9 a b)):Bn a∧Bn b:=by
  cases a<;>cases b<;>first|exact⟨trivial,h⟩|exact⟨h,trivial⟩|exact h
noncomputable def loC:Option Operand→Option (Int)
  |none=>some 0
  |some x=>match ev x with
    |some (.int _ a)=>some a
    |_=>none
noncomputable def hiC (d:Nat):Option Operand→Option (Int)
  |none=>some (d:Int)
  |some x=>match ev x with
    |some (.int _ a)=>some a
    |_=>none
noncomputable def X4 (t:Nat) (x:Operand) (lo hi:Option Operand):PC:=match ev x with
  | some (.str l) => bif Ll P t then match loC ev lo, hiC ev l.length hi with
      |some i,some j=>some (.str ((l.take j.toNat).drop i.toNat),some (0≤i∧i≤j∧j≤l.length))
      |_,_=>none
    else none
  |some (.row sz n g)=>match Fa P t with
    | some e => bif (match tsz P e with | some s => Nat.beq s sz && Nat.blt 0 sz | none => false) then match loC ev lo, hiC ev n hi with
        |some i,some j=>some (.row sz (j.toNat-i.toNat) (fun k=>g (i.toNat+k)),some (0≤i∧i≤j∧j≤n))
        |_,_=>none
      else none
    |none=>none
  |_=>none
noncomputable def Q0u (t:Nat) (x i:Operand):PC:=match ev x,ev i with
  |some (.str l),some (.int _ a)=>bif Ll P t then some (.int .u8 ((As l a.toNat).toNat:Int),some (0≤a∧a.toNat < l.length)) else none
  |_,_=>none
noncomputable def Q4o (t:Nat) (x i:Operand):PC:=match ev x,ev i with
  |some (.row sz n g),some (.int _ a)=>match Fa P t with
    |some e=>bif (match tsz P e with|some s=>Nat.beq s sz|none=>false) then some (.fp (g a.toNat),some (0≤a∧a.toNat < n)) else none
    |none=>none
  |some (.fp (.agg l)),some (.int _ a)=>match P.underlying t with
    |some (.array len e)=>match tsz P e,l[a.toNat]? with
      |some s,some v=>bif Nat.beq s 1&&one v then some (.fp v,some (0≤a∧a.toNat < len)) else none
      |_,_=>none
    |_=>none
  |_,_=>none
noncomputable def Q28 (s d:Nat) (x:Operand):PC:=match ev x with
  |some (.int k a)=>match P7 P s,P7 P d with
    |some k1,some k2=>bif kEq k k1 then some (.int k2 a,some (kLo k2≤a∧a≤kHi k2)) else none
    |_,_=>none
  |_=>none
noncomputable def Zk (op:UnOp) (x:Operand):PC:=match op with
  |.neg=>match ev x with
    |some (.int k a)=>some (.int k (0-a),some (kLo k≤0-a∧0-a≤kHi k))
    |_=>none
  |_=>none
noncomputable def Z8 (c:Call):PC:=match c.callee with
  |.builtin .len=>match c.args.toList,c.argTypes.toList with
    |[x],[t]=>match ev x with
      |some (.row _ n _)=>match Fa P t with
        |some _=>some (.int .i64 (n:Int),none)
        |none=>none
      |_=>none
    |_,_=>none
  |_=>none
noncomputable def Q1b (s:Nat) (x:Operand) (f:Nat):PC:=match ev x with
  |some (.fp (.agg l))=>match P.underlying s with
    |some (.struct fields)=>match fields.toList[f]? with
      |some fd=>match tsz P fd.type with
        |some (m+1)=>match Ha P fd.type with
          |some true=>some (.fp (.agg ((l.drop fd.offset).take (m+1))),none)
          |some false=>match l[fd.offset]? with
            |some a=>bif one a&&!Eo a then some (.fp a,none) else none
            |none=>none
          |none=>none
        |_=>none
      |none=>none
    |_=>none
  |_=>none
noncomputable def X1 (c x y:Operand):PC:=match ev c,ev x,ev y with
  |some (.bool q),some (.bool a),some (.bool b)=>some (.bool (bif q then a else b),none)
  |some (.bool q),some (.cond q' (.bool a)),some (.bool b)=>some (.bool (bif q then a else b),some (q=true→q'=true))
  |some (.bool q),some (.bool a),some (.cond q' (.bool b))=>some (.bool (bif q then a else b),some (q=false→q'=true))
  |_,_,_=>none
noncomputable def orP (a:PC) (b:Option AV):PC:=match a with
  |some r=>some r
  |none=>match b with
    |some a=>some (a,none)
    |none=>none
noncomputable def Pk (o:Oper):PC:=match o.op with
  |.pick c x y=>orP (X1 ev c x y) (Fx P ev o)
  |.binOp op t x y _=>orP (Q3u P ev op t x y) (Fx P ev o)
  |.unOp op t x=>orP (Zk ev op x) (Fx P ev o)
  |.convert s d x=>orP (Q28 P ev s d x) (Fx P ev o)
  |.fieldAddr s x f=>orP (Q1b P ev s x f) (Fx P ev o)
  |.indexAddr t x i=>orP (Q4o P ev t x i) (Fx P ev o)
  |.index t x i=>orP (Q0u P ev t x i) (Fx P ev o)
  |.slice t x lo hi none=>orP (X4 P ev t x lo hi) (Fx P ev o)
  |.nilCheck x=>match ev x with
    |some (.fp a)=>some (.fp a,none)
    |_=>orP none (Fx P ev o)
  |.call c=>orP (Z8 P ev c) (Fx P ev o)
  |_=>orP none (Fx P ev o)
end
section
variable {P : Program} {eA : Operand → Option AV} {φ : Phi} {n : Nat} {σ : Nat → Value}
theorem Hs {k:IntKind} {a:Int}:VR φ (.int k a) (.int k a):=by simp[VR]
theorem Jc {b:Bool}:VR φ (.bool b) (.bool b):=by simp[VR]
theorem Q4w {l:List UInt8}:VR φ (.str l) (S l):=by simp[VR]
theorem G1 {a:PC} {b:Option AV} {r:AV × Option Prop} (h:orP a b=some r):a=some r∨(b=some r.1∧r.2=none):=by
  unfold orP at h
  split at h
  · exact .inl h
  · split at h
    · cases h;exact .inr ⟨rfl,rfl⟩
    · cases h
theorem Z4 (hev:EVR φ eA (ev n σ)) {lo:Option Operand} {i:Int} (h:loC eA lo=some i):(lo=none∧i=0)∨∃x k,lo=some x∧ev n σ x = .int k i:=by
  unfold loC at h
  split at h
  · cases h;exact .inl ⟨rfl,rfl⟩
  · rename_i x
    split at h
    · rename_i k a hx
      cases h
      have:=hev _ _ hx
      simp only[VR] at this
      exact .inr ⟨x,k,rfl,this⟩
    · cases h
theorem Q0y (hev:EVR φ eA (ev n σ)) {hi:Option Operand} {d:Nat} {i:Int} (h:hiC eA d hi=some i):(hi=none∧i=d)∨∃x k,hi=some x∧ev n σ x = .int k i:=by
  unfold hiC at h
  split at h
  · cases h;exact .inl ⟨rfl,rfl⟩
  · rename_i x
    split at h
    · rename_i k a hx
      cases h
      have:=hev _ _ hx
      simp only[VR] at this
      exact .inr ⟨x,k,rfl,this⟩
    · cases h
theorem Q02 {b o i s:Nat}:(⟨b,o,none⟩:Addr).add (i*s)=⟨b,o+i*s,none⟩:=Eg b o (i*s)
theorem Eb {q:Bool} {α:Type} {x:α} {r:α} {f:Option α} (h:(bif q then some x else none)=some r):q=true∧x=r:=by
  cases q
  · cases h
  · cases h;exact⟨rfl,rfl⟩
theorem Xt (hev:EVR φ eA (ev n σ)) {o:Oper} {a:AV} {C:Option Prop} (h:Pk P eA o=some (a,C)) (hC:Bn C):My P φ (ev n σ) o a:=by
  have fall:∀{r:AV × Option Prop},r=(a,C)→Fx P eA o=some r.1→My P φ (ev n σ) o a:=fun e h=>by subst e;exact Q74 hev h
  obtain⟨dst,op,ty,ps,af,g⟩:=o
  cases op<;>simp only[Pk] at h
  case pick c x y =>
    rcases G1 h with h|h
    · unfold X1 at h
      split at h
      · rename_i q a' b' hc hx hy
        cases h
        have hc:=hev _ _ hc;have hx:=hev _ _ hx;have hy:=hev _ _ hy
        simp only[VR] at hc hx hy
        exact⟨.bool (bif q then a' else b'),fun w=>by cases q<;>simp[execOp,hc,hx,hy,asBool,go_sem],Jc⟩
      · rename_i q q' a' b' hc hx hy
        cases h
        have hc:=hev _ _ hc;have hx:=hev _ _ hx;have hy:=hev _ _ hy
        simp only[VR] at hc hx hy
        refine⟨.bool (bif q then a' else b'),fun w=>?_,Jc⟩
        cases q
        · simp[execOp,hc,hy,asBool,go_sem]
        · simp[execOp,hc,hx.1 (hC rfl),asBool,go_sem]
      · rename_i q a' q' b' hc hx hy
        cases h
        have hc:=hev _ _ hc;have hx:=hev _ _ hx;have hy:=hev _ _ hy
        simp only[VR] at hc hx hy
        refine⟨.bool (bif q then a' else b'),fun w=>?_,Jc⟩
        cases q
        · simp[execOp,hc,hy.1 (hC rfl),asBool,go_sem]
        · simp[execOp,hc,hx,asBool,go_sem]
      · cases h
    · exact fall rfl h.1
  case binOp op t x y t' =>
    rcases G1 h with h|h
    · unfold Q3u at h
      split at h
      · rename_i k a' k' b' hx hy
        have hx:=hev _ _ hx;have hy:=hev _ _ hy
        simp only[VR] at hx hy
        cases hk:kEq k k' with
        |false=>rw[hk] at h;cases h
        |true =>
          rw[hk,cond_true] at h
          have:=Tm hk;subst this
          cases op<;>simp only[Q0m,reduceCtorEq,Option.some.injEq,Prod.mk.injEq] at h<;>(try (exact h.elim))<;>obtain⟨rfl,rfl⟩:=h
          · exact⟨_,fun w=>Vy hx hy hC,Hs⟩
          · exact⟨_,fun w=>Q5a hx hy hC,Hs⟩
          · exact⟨_,fun w=>X75 hx hy hC,Hs⟩
          · exact⟨_,fun w=>X73 hx hy hC,Hs⟩
          · exact⟨_,fun w=>X72 hx hy hC,Hs⟩
          all_goals exact⟨_,fun w=>Jm (by simp only[H1,hx,hy,Ls,if_true]),Jc⟩
      · rename_i l m hx hy
        have hx:=hev _ _ hx;have hy:=hev _ _ hy
        simp only[VR] at hx hy
        cases op<;>simp only[Wo,reduceCtorEq,Option.some.injEq,Prod.mk.injEq] at h<;>(try (exact h.elim))<;>obtain⟨rfl,rfl⟩:=h
        · exact⟨_,fun w=>X71 hx hy hC,Q4w⟩
        · exact⟨_,fun w=>Vw hx hy,Jc⟩
        · exact⟨_,fun w=>X7z hx hy,Jc⟩
        · exact⟨_,fun w=>X70 hx hy,Jc⟩
      · rename_i a' b' hx hy
        have hx:=hev _ _ hx;have hy:=hev _ _ hy
        simp only[VR] at hx hy
        cases op<;>simp only[Q3r,reduceCtorEq] at h
        · obtain⟨h1,h2⟩:=Eb (f:=none) h;cases h2
          exact⟨_,fun w=>X78 hx hy (Q3q h1),Jc⟩
        · obtain⟨h1,h2⟩:=Eb (f:=none) h;cases h2
          exact⟨_,fun w=>X77 hx hy (Q3q h1),Jc⟩
      · cases h
    · exact fall rfl h.1
  case unOp op t x =>
    rcases G1 h with h|h
    · unfold Zk at h
      split at h
      · split at h
        · rename_i k a' hx
          cases h
          have hx:=hev _ _ hx
          simp only[VR] at hx
          exact⟨_,fun w=>X74 hx hC rfl,Hs⟩
        · cases h
      · cases h
    · exact fall rfl h.1
  case convert s d x =>
    rcases G1 h with h|h
    · unfold Q28 at h
      split at h
      · rename_i k a' hx
        have hx:=hev _ _ hx
        simp only[VR] at hx
        split at h
        · rename_i k1 k2 h1 h2
          obtain⟨h3,h4⟩:=Eb (f:=none) h
          cases h4
          have:=Tm h3;subst this
          exact⟨_,fun w=>X76 hx (Q0e h1) (Q0e h2) hC,Hs⟩
        · cases h
      · cases h
    · exact fall rfl h.1
  case fieldAddr s x f =>
    rcases G1 h with h|h
    · unfold Q1b at h
      split at h
      · rename_i l hx
        have hx:=hev _ _ hx
        simp only[VR] at hx
        obtain⟨b,o,u,hv,⟨vs,hvs,rfl⟩,cs,e,fr,hf,hl⟩:=hx
        have hcs:(Value.agg vs.toArray).cells.toList=vs:=by simp[Value.cells]
        rw[hcs] at hl
        split at h
        · rename_i fields hs
          split at h
          · rename_i fd hfd
            split at h
            · rename_i k hk
              have hrun:∀w,(execOp (ev n σ) ⟨dst,.fieldAddr s x f,ty,ps,af,g⟩).run P w = .ok (.value (.pointer (some ⟨b,o+fd.offset,none⟩))) w:=by
                intro w
                have h1:fields[f]? = some fd:=by simpa using hfd
                simp[execOp,hv,Instr.fieldAt,Instr.sureAddr,fieldPlace,run_underlying hs,h1,C3 hk,Eg,go_sem]
              have lie:∀us:List Value,(∀j u,us[j]? = some u→vs[fd.offset+j]? = some u)→LieAt φ.f b (o+fd.offset) us:=fun us hu=>⟨cs,e,fr,hf,fun j u hj=>by rw[Nat.add_assoc];exact hl _ u (hu j u hj)⟩
              split at h
              · cases h
                refine⟨_,hrun,?_⟩
                simp only[VR]
                refine⟨b,o+fd.offset,.agg ((vs.drop fd.offset).take (k+1)).toArray,rfl,⟨_,(hvs.drop fd.offset).take (k+1),rfl⟩,lie _ fun j u hj=>?_⟩
                simp only[Value.cells,List.toList_toArray] at hj
                obtain⟨hlt,_⟩:=List.getElem?_eq_some_iff.1 hj
                rw[List.getElem?_take_of_lt (by simp at hlt;omega),List.getElem?_drop] at hj
                exact hj
              · split at h
                · rename_i a' hp
                  obtain⟨h3,h4⟩:=Eb (f:=none) h
                  cases h4
                  simp only[Bool.and_eq_true,Bool.not_eq_true'] at h3
                  obtain⟨v,hv1,hv2⟩:=hvs.get hp
                  refine⟨_,hrun,?_⟩
                  simp only[VR]
                  refine⟨b,o+fd.offset,v,rfl,hv2,lie _ fun j u hj=>?_⟩
                  rw[(hv2.one h3.1).2] at hj
                  cases j with
                  |zero=>simp at hj;subst hj;exact hv1
                  |succ j=>simp at hj
                · cases h
              · cases h
            · cases h
          · cases h
        · cases h
      · cases h
    · exact fall rfl h.1
  case indexAddr t x i =>
    rcases G1 h with h|h
    · unfold Q4o at h
      split at h
      · rename_i sz m g' k a' hx hi
        have hx:=hev _ _ hx;have hi:=hev _ _ hi
        simp only[VR] at hx hi
        split at h
        · rename_i e he
          obtain⟨h3,h4⟩:=Eb (f:=none) h
          cases h4
          split at h3
          · rename_i s hs
            have:=Nat.eq_of_beq_eq_true h3;subst this
            obtain⟨hc1,hc2⟩:=hC
            obtain⟨u,hu,hr⟩:=hx
            obtain⟨j,rfl⟩:∃j:Nat,a'=(j:Int):=⟨a'.toNat,by omega⟩
            simp only[Int.toNat_natCast] at hc2 ⊢
            rcases hr with⟨h0,_⟩|⟨b,o,c,hv,_,hl⟩
            · omega
            · refine⟨.pointer (some ⟨b,o+j*s,none⟩),fun w=>?_,?_⟩
              · have h1:(0:Int)≤(j:Int)∧(j:Int) < (m:Int):=by omega
                simp[execOp,Instr.indexAt,asIntOf,hv,hi,run_underlying (D1 he),C3 hs,h1,hc2,Q02,go_sem]
              · simp only[VR];exact⟨b,o+j*s,u j,rfl,hu j hc2,(hl j hc2).2⟩
          · cases h3
        · cases h
      · rename_i l k a' hx hi
        have hx:=hev _ _ hx;have hi:=hev _ _ hi
        simp only[VR] at hx hi
        split at h
        · rename_i len e he
          split at h
          · rename_i s v0 hs hp
            obtain⟨h3,h4⟩:=Eb (f:=none) h
            cases h4
            simp only[Bool.and_eq_true] at h3
            have:=Nat.eq_of_beq_eq_true h3.1;subst this
            obtain⟨hc1,hc2⟩:=hC
            obtain⟨j,rfl⟩:∃j:Nat,a'=(j:Int):=⟨a'.toNat,by omega⟩
            simp only[Int.toNat_natCast] at hc2 hp
            obtain⟨b,o,u,hv,⟨vs,hvs,rfl⟩,cs,e',fr,hf,hl⟩:=hx
            have hcs:(Value.agg vs.toArray).cells.toList=vs:=by simp[Value.cells]
            rw[hcs] at hl
            obtain⟨v,hv1,hv2⟩:=hvs.get hp
            refine⟨.pointer (some ⟨b,o+j,none⟩),fun w=>?_,?_⟩
            · have h1:(0:Int)≤(j:Int)∧(j:Int) < (len:Int):=by omega
              simp[execOp,Instr.indexAt,Instr.sureAddr,asIntOf,hv,hi,run_underlying he,C3 hs,h1,hc2,Eg,go_sem]
            · simp only[VR]
              refine⟨b,o+j,v,rfl,hv2,cs,e',fr,hf,fun i u hj=>?_⟩
              rw[(hv2.one h3.2).2] at hj
              cases i with
              |zero=>simp at hj;subst hj;exact hl j _ hv1
              |succ i=>simp at hj
          · cases h
        · cases h
      · cases h
    · exact fall rfl h.1
  case index t x i =>
    rcases G1 h with h|h
    · unfold Q0u at h
      split at h
      · rename_i l k a' hx hi
        have hx:=hev _ _ hx;have hi:=hev _ _ hi
        simp only[VR] at hx hi
        obtain⟨h3,h4⟩:=Eb (f:=none) h
        cases h4
        obtain⟨hc1,hc2⟩:=hC
        exact⟨_,fun w=>Q5d hx hi (O3 h3) (by omega) hc2,Hs⟩
      · cases h
    · exact fall rfl h.1
  case slice t x lo hi mx =>
    cases mx with
    | some m => simp only at h; rcases G1 h with h | h; · cases h
                exact fall rfl h.1
    |none =>
    simp only at h
    rcases G1 h with h|h
    · unfold X4 at h
      split at h
      · rename_i l hx
        have hx:=hev _ _ hx
        simp only[VR] at hx
        cases hs:Ll P t with
        |false=>rw[hs] at h;cases h
        |true =>
          rw[hs,cond_true] at h
          split at h
          · rename_i i j hlo hhi
            cases h
            obtain⟨hc1,hc2,hc3⟩:=hC
            refine⟨S ((l.take j.toNat).drop i.toNat),fun w=>?_,Q4w⟩
            have hr:=Sb (P:=P) (t:=t) w l (lo.map (ev n σ)) (hi.map (ev n σ)) i.toNat j.toNat (O3 hs) ?_ ?_ (by omega) (by omega)
            · simp[execOp,Instr.sliceAt,run_underlying (O3 hs),hx,hr,go_sem]
            · rcases Z4 hev hlo with⟨rfl,rfl⟩|⟨y,k,rfl,hy⟩
              · exact .inl ⟨rfl,rfl⟩
              · exact .inr ⟨k,by simp only[Option.map_some,hy];congr 2;omega⟩
            · rcases Q0y hev hhi with⟨rfl,rfl⟩|⟨y,k,rfl,hy⟩
              · exact .inl ⟨rfl,by omega⟩
              · exact .inr ⟨k,by simp only[Option.map_some,hy];congr 2;omega⟩
          · cases h
      · rename_i sz m g' hx
        have hx:=hev _ _ hx
        simp only[VR] at hx
        split at h
        · rename_i e he
          obtain⟨h3,h4⟩:(match tsz P e with|some s=>Nat.beq s sz&&Nat.blt 0 sz|none=>false)=true∧_:=by
            cases hq:(match tsz P e with|some s=>Nat.beq s sz&&Nat.blt 0 sz|none=>false) with
            |false=>rw[hq] at h;cases h
            |true=>rw[hq,cond_true] at h;exact⟨rfl,h⟩
          split at h3
          · rename_i s hs
            simp only[Bool.and_eq_true] at h3
            have:=Nat.eq_of_beq_eq_true h3.1;subst this
            split at h4
            · rename_i i j hlo hhi
              cases h4
              obtain⟨hc1,hc2,hc3⟩:=hC
              obtain⟨i,rfl⟩:∃q:Nat,i=(q:Int):=⟨i.toNat,by omega⟩
              obtain⟨j,rfl⟩:∃q:Nat,j=(q:Int):=⟨j.toNat,by omega⟩
              simp only[Int.toNat_natCast]
              obtain⟨u,hu,hr⟩:=hx
              have l1:(lo.map (ev n σ)=none∧i=0)∨∃k,lo.map (ev n σ)=some (.int k (i:Int)):=by
                rcases Z4 hev hlo with⟨rfl,q⟩|⟨y,k,rfl,hy⟩
                · exact .inl ⟨rfl,by omega⟩
                · exact .inr ⟨k,by simp only[Option.map_some,hy]⟩
              have l2:(hi.map (ev n σ)=none∧j=m)∨∃k,hi.map (ev n σ)=some (.int k (j:Int)):=by
                rcases Q0y hev hhi with⟨rfl,q⟩|⟨y,k,rfl,hy⟩
                · exact .inl ⟨rfl,by omega⟩
                · exact .inr ⟨k,by simp only[Option.map_some,hy]⟩
              have hu':∀q,q < j-i→VR φ.fz (g' (i+q)) (u (i+q)):=fun q hq=>hu _ (by omega)
              rcases hr with⟨rfl,hv|⟨ad,c,hv⟩⟩|⟨b,o,c,hv,hmc,hl⟩
              · obtain rfl:i=0:=by omega
                obtain rfl:j=0:=by omega
                have hb:=fun w=>Gz (P:=P) (isS:=true) (len:=0) (cap:=0) (m:=0) (mx:=none) l1 l2 (.inl ⟨rfl,rfl⟩) (Nat.le_refl _) (Nat.le_refl _) (Nat.le_refl _) w
                refine⟨.slice none 0 0,fun w=>?_,by simp only[VR];exact⟨u,by simp,.inl ⟨rfl,.inl rfl⟩⟩⟩
                simp only[execOp,Instr.sliceAt,Instr.slice,Sem.run_bind,Sem.run_pure,run_underlying (D1 he),Result.andThen_ok,hv,hb,C3 hs,Option.map_none]<;>(try split)<;>rfl
              · obtain rfl:i=0:=by omega
                obtain rfl:j=0:=by omega
                have hb:=fun w=>Gz (P:=P) (isS:=true) (len:=0) (cap:=c) (m:=c) (mx:=none) l1 l2 (.inl ⟨rfl,rfl⟩) (Nat.le_refl _) (Nat.zero_le _) (Nat.le_refl _) w
                refine⟨.slice (some (if c=0 then ad else ad.add (0*s))) 0 c,fun w=>?_,by simp only[VR];exact⟨u,by simp,.inl ⟨rfl,.inr ⟨_,_,rfl⟩⟩⟩⟩
                simp only[execOp,Instr.sliceAt,Instr.slice,Sem.run_bind,Sem.run_pure,run_underlying (D1 he),Result.andThen_ok,hv,hb,C3 hs,Option.map_none]<;>(try split)<;>rfl
              · have hb:=fun w=>Gz (P:=P) (isS:=true) (cap:=c) (m:=c) (mx:=none) l1 l2 (.inl ⟨rfl,rfl⟩) (by omega) (by omega) (Nat.le_refl _) w
                refine⟨.slice (some (if c=i then ⟨b,o,none⟩ else (⟨b,o,none⟩:Addr).add (i*s))) (j-i) (c-i),fun w=>?_,?_⟩
                · simp only[execOp,Instr.sliceAt,Instr.slice,Sem.run_bind,Sem.run_pure,run_underlying (D1 he),Result.andThen_ok,hv,hb,C3 hs,Option.map_none]<;>(try split)<;>rfl
                · simp only[VR]
                  refine⟨fun q=>u (i+q),hu',?_⟩
                  by_cases hci:j-i=0
                  · exact .inl ⟨hci,.inr ⟨_,_,by rw[hci]⟩⟩
                  · refine .inr ⟨b,o+i*s,c-i,by rw[if_neg (by omega),Eg],by omega,fun q hq=>?_⟩
                    have:=hl (i+q) (by omega)
                    refine⟨this.1,?_⟩
                    rw[show o+i*s+q*s=o+(i+q)*s by rw[Nat.add_mul];omega]
                    exact this.2
            · cases h4
          · cases h3
        · cases h
      · cases h
    · exact fall rfl h.1
  case nilCheck x =>
    split at h
    · rename_i a' hx
      cases h
      have hx:=hev _ _ hx
      have hx':=hx
      simp only[VR] at hx
      obtain⟨b,o,u,hv,_⟩:=hx
      refine⟨.pointer (some ⟨b,o,none⟩),fun w=>by simp[execOp,hv,go_sem],by rw[←hv];exact hx'⟩
    · rcases G1 h with h|h
      · cases h
      · exact fall rfl h.1
  case call c =>
    rcases G1 h with h|h
    · unfold Z8 at h
      split at h
      · rename_i hcal
        split at h
        · rename_i x t hargs htys
          split at h
          · rename_i sz m g' hx
            split at h
            · rename_i e he
              cases h
              have hx:=hev _ _ hx
              simp only[VR] at hx
              obtain⟨u,hu,hr⟩:=hx
              obtain⟨cal,args,tys⟩:=c
              simp only at hcal hargs htys
              subst hcal
              have ha:args = #[x]:=by apply Array.ext';simpa using hargs
              have ht:tys = #[t]:=by apply Array.ext';simpa using htys
              subst ha ht
              refine⟨_,fun w=>?_,Hs⟩
              rcases hr with⟨rfl,hv|⟨a,c,hv⟩⟩|⟨b,o,c,hv,_⟩<;>simp[execOp,resolve,invoke,builtin,Builtin.len_,hv,run_underlying (D1 he),go_sem,goInt]
            · cases h
          · cases h
        · cases h
      · cases h
    · exact fall rfl h.1
  all_goals (rcases G1 h with h|h<;>first|(cases h;done)|exact fall rfl h.1)
end
end Sv
end
section
open Go Go.RowKit
namespace Sv
theorem W6 {s:Sem Unit} {P:Program} {w w':World} (h:s.run P w = .ok () w'):((do s;pure .skip:Sem Next)).run P w = .ok .skip w':=by
  simp only[Sem.run_bind,h,Result.andThen_ok,Sem.run_pure]
theorem Q65 {s:Sem Value} {P:Program} {w w':World} {v:Value} (h:s.run P w = .ok v w'):((do pure (.value (←s)):Sem Next)).run P w = .ok (.value v) w':=by
  simp only[Sem.run_bind,h,Result.andThen_ok,Sem.run_pure]
inductive NK where
  |ptr
  |sl (n c:Nat)
  |map
noncomputable def NK.av (k:NK) (b:Nat):AV:=match k with
  |.ptr => .ptr b 0
  |.sl n c => .sl b 0 n c false
  |.map => .map b
def NK.val (k:NK) (x:Nat):Value:=match k with
  |.ptr => .pointer (some ⟨x,0,none⟩)
  |.sl n c => .slice (some ⟨x,0,none⟩) n c
  |.map => .map (some x)
theorem NK.vr {φ:Phi} {k:NK} {b x κ:Nat} (h:φ b=some (x,κ)):VR φ (k.av b) (k.val x):=by
  cases k<;>simp only[NK.av,NK.val,VR]
  · exact⟨x,κ,h,rfl⟩
  · exact⟨x,κ,h,.inr ⟨trivial,rfl⟩⟩
  · exact⟨x,κ,h,rfl⟩
section
variable (P : Program)
noncomputable def tby (t:Nat):Option Nat:=match P.info? t with
  |some i=>some i.bytes
  |none=>none
noncomputable def Rm (z:List AV) (n:Nat):List AV:=(List.range n).map fun i=>(z[i % z.length]?).getD (.tup [])
noncomputable def Vd (t len:Nat) (ps:List (Nat × AV)):Option (NK × AO):=match P.underlying t with
  |some (.slice e)=>match tsz P e with
    |some size=>match Ij P e with
      | some z => bif Nat.beq (cellsOf z).length size && !Eo z && Nat.blt 0 size && Nat.ble (len * size) 1000000 then (match Mh (fun i => some (i * size, size)) (Rm (cellsOf z) (len * size)) ps with
          |some c=>some (.sl len len,.row c e)
          |none=>none) else none
      |none=>none
    |none=>none
  |_=>none
noncomputable def Te (t:Nat) (l c:AV):Option (NK × AO):=match P.underlying t with
  |some (.slice e)=>match tsz P e with
    |some size=>match Ij P e with
      |some z=>match tby P e with
        |some by_=>match Jp l with
          |some n=>match Jp c with
            |some m=>bif Nat.beq (cellsOf z).length size&&!Eo z&&Nat.blt 0 size&&Nat.ble n m&&Nat.ble m 1000000&&Nat.ble (by_*m) 1000000000 then some (.sl n m,.row (Rm (cellsOf z) (m*size)) e) else none
            |none=>none
          |none=>none
        |none=>none
      |none=>none
    |none=>none
  |_=>none
noncomputable def P0 (ev:Operand→Option AV) (o:Oper):Option (NK × AO):=match o.op with
  |.alloc t=>match Ij P t with
    |some z=>bif Eo z then none else some (.ptr,.row (cellsOf z) t)
    |none=>none
  |.box t x=>match ev x with
    |some a=>bif Eo a then none else some (.ptr,.row (cellsOf a) t)
    |none=>none
  |.buildSlice t n parts=>match evp ev parts.toList with
    |some ps=>Vd P t n ps
    |none=>none
  |.makeSlice t l c=>match ev l with
    |some a=>match ev c with
      |some b=>Te P t a b
      |none=>none
    |none=>none
  |.makeMap _ r=>match r with
    |none=>some (.map,.map [] 0)
    |some _=>none
  |_=>none
end
section
variable {P : Program} {φ : Phi} {ρ : Operand → Value} {ev : Operand → Option AV}
theorem Wi {P:Program} {t n m:Nat} (h1:tby P t=some n) (h2:tsz P t=some m):∃i,P.info? t=some i∧i.bytes=n∧i.size=m:=by
  unfold tby at h1
  unfold tsz at h2
  split at h1
  · rename_i i hi
    rw[hi] at h2
    cases h1;cases h2;exact⟨i,hi,rfl,rfl⟩
  · cases h1
theorem VRl.of_map {f:Nat→AV} {g:Nat→Value}:∀{l:List Nat},(∀i∈l,VR φ (f i) (g i))→VRl φ (l.map f) (l.map g)
  |[],_ => .nil
  |a::l,k => .cons (k a (by simp)) (VRl.of_map fun i hi=>k i (by simp[hi]))
theorem V5 {z:List AV} {zs:Array Value} (hz:VRl φ z zs.toList) (hp:0 < z.length) (n:Nat):VRl φ (Rm z n) ((Array.range n).map fun i=>zs[i % zs.size]!).toList:=by
  rw[Array.toList_map,Array.toList_range]
  refine VRl.of_map fun i _=>?_
  have hl:zs.size=z.length:=by have:=hz.length;simpa using this
  have hlt:i % z.length < z.length:=Nat.mod_lt _ hp
  rw[hl,List.getElem?_eq_getElem hlt]
  obtain⟨v,hv,hr⟩:=hz.get (i:=i % z.length) (List.getElem?_eq_getElem hlt)
  have hv':zs[i % z.length]! = v:=by
    rw[getElem!_def]
    have:zs[i % z.length]? = some v:=by simpa using hv
    rw[this]
  rw[hv'];exact hr
theorem Lp (e:Nat) (cs:Array Value) (w:World):(newRow e cs).run P w = .ok ⟨w.heap.size,0,none⟩ (w.alloc (.cells cs e)):=rfl
theorem V9 {n:Nat} (h:n≤1000000):IntKind.i64.wrap (n:Int)=(n:Int):=by
  simp only[IntKind.wrap,IntKind.signed,IntKind.bits]
  simp
  omega
def V1 (P:Program) (φ:Phi) (s:Sem Value) (k:NK) (ao:AO):Prop:=(Mf ao=true)∧∃ob,(∀(B:Bas) (φ':Phi) (w:World) b x,φ.le φ'→φ' b=some (x,0)→w.heap[x]? = some ob→At B φ' w b ao)∧∀w:World,s.run P w = .ok (k.val w.heap.size) (w.alloc ob)
theorem Px {c:List AV} {e:Nat} {cs:Array Value} (h:VRl φ c cs.toList):∀(B:Bas) (φ':Phi) (w:World) b x,φ.le φ'→φ' b=some (x,0)→w.heap[x]? = some (.cells cs e (0,0))→At B φ' w b (.row c e):=fun _ _ _ _ x hle hx hw=>⟨x,0,cs,hx,hw,h.mono hle⟩
theorem X5n {t len:Nat} {ps:List (Nat × AV)} {qs:Array (Nat × Value)} {k:NK} {ao:AO} (hb:Vd P t len ps=some (k,ao)) (hp:NR φ ps qs.toList):V1 P φ (Instr.buildSlice t len qs) k ao:=by
  unfold Vd at hb
  split at hb
  · rename_i e hu
    split at hb
    · rename_i size hs
      split at hb
      · rename_i z hz
        cases hc:(Nat.beq (cellsOf z).length size&&!Eo z&&Nat.blt 0 size&&Nat.ble (len*size) 1000000) with
        |false=>rw[hc] at hb;cases hb
        |true =>
          rw[hc,cond_true] at hb
          simp only[Bool.and_eq_true,Bool.not_eq_true'] at hc
          obtain⟨⟨⟨c1,c2⟩,c3⟩,c4⟩:=hc
          have c1':=Nat.eq_of_beq_eq_true c1
          have c3':0 < size:=by simpa [Nat.blt_eq] using c3
          have c4':=Dz c4
          split at hb
          · rename_i c hf
            cases hb
            obtain⟨zv,h1,h3⟩:=J9 (φ:=φ) hz
            have hzr:=V5 (h3.cells c2) (by omega) (len*size)
            obtain⟨rs,f1,f2⟩:=Qi _ ps qs.toList _ ((Array.range (len*size)).map fun i=>zv.cells[i % zv.cells.size]!) c hf hp hzr
            refine⟨rfl,_,Px f2,fun w=>?_⟩
            show _=Result.ok (Value.slice (some ⟨w.heap.size,0,none⟩) len len) _
            by_cases h0:len*size=0
            · have hl0:len=0:=by rcases Nat.mul_eq_zero.1 h0 with q|q<;>omega
              subst hl0
              have hr0:∀f:Nat→Value,(Array.range (0*size)).map f = #[]:=fun f=>by rw[Nat.zero_mul];simp
              rw[hr0] at f1
              simp only[Instr.buildSlice,Sem.run_bind,run_underlying hu,Result.andThen_ok,C3 hs,Sem.run_pure]
              rw[if_neg (by omega),if_pos h0]
              simp only[Sem.run_pure,Result.andThen_ok,Sem.run_bind,hr0,f1,Lp]
            · simp only[Instr.buildSlice,Sem.run_bind,run_underlying hu,Result.andThen_ok,C3 hs,if_neg h0,Sem.run_pure]
              rw[if_neg (by omega)]
              simp only[Sem.run_pure,Result.andThen_ok,Sem.run_bind,h1,f1,Lp]
          · cases hb
      · cases hb
    · cases hb
  · cases hb
theorem Q98 {t:Nat} {l c:AV} {lv cv:Value} {k:NK} {ao:AO} (hb:Te P t l c=some (k,ao)) (hl:VR φ l lv) (hc:VR φ c cv):V1 P φ (Instr.makeSlice t lv cv) k ao:=by
  unfold Te at hb
  split at hb
  · rename_i e hu
    split at hb
    · rename_i size hs
      split at hb
      · rename_i z hz
        split at hb
        · rename_i by_ hby
          split at hb
          · rename_i n hn
            split at hb
            · rename_i m hm
              cases hcc:(Nat.beq (cellsOf z).length size&&!Eo z&&Nat.blt 0 size&&Nat.ble n m&&Nat.ble m 1000000&&Nat.ble (by_*m) 1000000000) with
              |false=>rw[hcc] at hb;cases hb
              |true =>
                rw[hcc,cond_true] at hb
                simp only[Bool.and_eq_true,Bool.not_eq_true'] at hcc
                obtain⟨⟨⟨⟨⟨c1,c2⟩,c3⟩,c4⟩,c5⟩,c6⟩:=hcc
                have c1':=Nat.eq_of_beq_eq_true c1
                have c3':0 < size:=by simpa [Nat.blt_eq] using c3
                have c4':=Dz c4;have c5':=Dz c5;have c6':=Dz c6
                cases hb
                obtain⟨zv,h1,h3⟩:=J9 (φ:=φ) hz
                have hzr:=V5 (h3.cells c2) (by omega) (m*size)
                obtain⟨kl,rfl⟩:=L3 hn hl
                obtain⟨kc,rfl⟩:=L3 hm hc
                obtain⟨i,hi,hib,hisz⟩:=Wi hby hs
                have ht:∀w:World,(typeInfo e).run P w = .ok i w:=fun w=>by simp[typeInfo,hi,go_sem]
                refine⟨rfl,_,Px hzr,fun w=>?_⟩
                show _=Result.ok (Value.slice (some ⟨w.heap.size,0,none⟩) n m) _
                have w1:=V9 c5'
                have w2:=V9 (Nat.le_trans c4' c5')
                have g1:¬((i.bytes:Int)*(m:Int) > 2 ^ 48):=by
                  rw[hib]
                  have h5:((by_*m:Nat):Int)≤((1000000000:Nat):Int):=Int.ofNat_le.2 c6'
                  rw[Int.natCast_mul] at h5
                  have h6:(2:Int) ^ 48=281474976710656:=rfl
                  omega
                have g2:¬((m:Int) < 0):=by omega
                have g3:¬((n:Int) < 0):=by omega
                have g4:¬((n:Int) > (m:Int)):=by omega
                have cnd:((decide ((m:Int) < 0)||decide ((i.bytes:Int)*(m:Int) > 2 ^ 48))||decide ((n:Int) < 0)||decide ((n:Int) > (m:Int)))=false:=by
                  rw[decide_eq_false g1,decide_eq_false g2,decide_eq_false g3,decide_eq_false g4];rfl
                by_cases q:m*size=0
                · have hr0:∀f:Nat→Value,(Array.range (m*size)).map f = #[]:=fun f=>by rw[q];simp
                  simp only[Instr.makeSlice,asInt,asIntOf,Sem.run_bind,run_underlying hu,Result.andThen_ok,Sem.run_pure,ht,w1,w2]
                  rw[if_neg (by rw[cnd];simp)]
                  simp only[Sem.run_bind,run_askRoom,Int.toNat_natCast,C3 hs,Result.andThen_ok,if_pos q,Sem.run_pure,hr0,Lp]
                · simp only[Instr.makeSlice,asInt,asIntOf,Sem.run_bind,run_underlying hu,Result.andThen_ok,Sem.run_pure,ht,w1,w2]
                  rw[if_neg (by rw[cnd];simp)]
                  simp only[Sem.run_bind,run_askRoom,Int.toNat_natCast,C3 hs,Result.andThen_ok,if_neg q,h1,Sem.run_pure,Lp]
            · cases hb
          · cases hb
        · cases hb
      · cases hb
    · cases hb
  · cases hb
theorem Q9z (hev : EVR φ ev ρ) {o : Oper} {k : NK} {ao : AO} (h : P0 P ev o = some (k, ao)) :
    (Mf ao=true)∧∃ob,(∀(B:Bas) (φ':Phi) (w:World) b x,φ.le φ'→φ' b=some (x,0)→w.heap[x]? = some ob→At B φ' w b ao)∧∀w:World,(execOp ρ o).run P w = .ok (.value (k.val w.heap.size)) (w.alloc ob):=by
  have fin:∀{s:Sem Value},execOp ρ o=(do pure (.value (←s)):Sem Next)→V1 P φ s k ao→(Mf ao=true)∧∃ob,(∀(B:Bas) (φ':Phi) (w:World) b x,φ.le φ'→φ' b=some (x,0)→w.heap[x]? = some ob→At B φ' w b ao)∧∀w:World,(execOp ρ o).run P w = .ok (.value (k.val w.heap.size)) (w.alloc ob):=by
    rintro s he ⟨h0,ob,h1,h2⟩
    exact⟨h0,ob,h1,fun w=>by rw[he];exact Q65 (h2 w)⟩
  obtain⟨dst,op,type,pos,after,guard⟩:=o
  cases op<;>simp only[P0,reduceCtorEq] at h
  case alloc t =>
    split at h
    · rename_i z hz
      cases hd:Eo z with
      |true=>rw[hd] at h;cases h
      |false =>
        rw[hd,cond_false] at h
        cases h
        obtain⟨zv,h1,h2⟩:=J9 (φ:=φ) hz
        refine fin (s:=Instr.alloc t true (.tuple #[])) rfl ⟨rfl,_,Px (h2.cells hd),fun w=>?_⟩
        simp only[Instr.alloc,Sem.run_bind,h1,Result.andThen_ok,newVar,Lp,Sem.run_pure]
        rfl
    · cases h
  case box t x =>
    split at h
    · rename_i z hz
      cases hd:Eo z with
      |true=>rw[hd] at h;cases h
      |false =>
        rw[hd,cond_false] at h
        cases h
        refine fin (s:=Instr.box t (ρ x)) rfl ⟨rfl,_,Px ((hev _ _ hz).cells hd),fun w=>?_⟩
        simp only[Instr.box,Sem.run_bind,Result.andThen_ok,newVar,Lp,Sem.run_pure]
        rfl
    · cases h
  case buildSlice t n parts =>
    split at h
    · rename_i ps hps
      have hp:=Ua hev hps
      refine fin (s:=Instr.buildSlice t n (parts.map fun (i,x)=>(i,ρ x))) ?_ (X5n h (by simpa using hp))
      simp only[execOp]
    · cases h
  case makeMap t r =>
    split at h
    · cases h
      refine⟨rfl,.map #[] 0,fun B φ' w b x _ hx hw=>⟨x,0,#[],hx,hw,by simp[MR]⟩,fun w=>?_⟩
      simp[execOp,Instr.makeMap,go_sem]
      rfl
    · cases h
  case makeSlice t l c =>
    split at h
    · rename_i a1 ha
      split at h
      · rename_i b1 hb
        exact fin (s:=Instr.makeSlice t (ρ l) (ρ c)) rfl (Q98 h (hev _ _ ha) (hev _ _ hb))
      · cases h
    · cases h
end
section
variable (P : Program)
noncomputable def Kt (t:Nat) (a:AV) (h:AH):Option AV:=match a with
  |.ptr b off=>match Bh b h with
    |some (.row c _)=>match Ha P t with
      |some true=>match tsz P t with
        |some n=>bif Nat.ble (off+n) c.length then some (.agg ((c.drop off).take n)) else none
        |none=>none
      |some false=>c[off]?
      |none=>none
    |_=>none
  |.fp (.agg l)=>match Ha P t with
    |some true=>match tsz P t with
      |some n=>bif Nat.beq n l.length then some (.agg l) else none
      |none=>none
    |some false=>match l with
      |a::_=>some a
      |[]=>none
    |none=>none
  |.fp a=>match Ha P t with
    |some false=>bif one a then some a else none
    |_=>none
  |_=>none
noncomputable def Ry (t:Nat) (a v:AV) (h:AH):Option AH:=match a with
  |.ptr b off=>match tsz P t with
    |some n=>match Bh b h with
      |some (.row c e)=>bif Nat.beq (cellsOf v).length n&&!Eo v&&Nat.ble (off+n) c.length&&ones (cellsOf v) then some (Ch b (.row (c.take off++cellsOf v++c.drop (off+n)) e) h) else none
      |_=>none
    |none=>none
  |_=>none
end
section
variable {P : Program} {φ : Phi} {B : Bas} {w : World} {h : AH}
theorem Rel.rowAt (r:Rel B φ h w) {b:Nat} {c:List AV} {e:Nat} (hb:Bh b h=some (.row c e)) {x κ:Nat} (hx:φ b=some (x,κ)):∃vs,w.heap[x]? = some (.cells vs e (0,0))∧VRl φ c vs.toList:=by
  obtain⟨x',κ',vs,h1,h2,h3⟩:=r.obj b _ hb
  rw[hx] at h1;cases h1
  exact⟨vs,h2,h3⟩
theorem Ku {f:Nat→Option Obj} {b o:Nat} {us:List Value} (hf:∀b o,f b=some o→w.heap[b]? = some o) (k:LieAt f b o us) {j:Nat} {u:Value} (hj:us[j]? = some u):w.cell? ⟨b,o+j,none⟩=some u:=by
  obtain⟨cs,e,fr,h1,h2⟩:=k
  have:=hf _ _ h1
  have h3:=(h2 j u hj).1
  simp[World.cell?,this,h3]
theorem Z3 {t:Nat} {a r:AV} {x:Value} (hl:Kt P t a h=some r) (hx:VR φ a x) (hr:Rel B φ h w):∃v,(Instr.loadAt t x).run P w = .ok v w∧VR φ r v:=by
  have agg:∀{b o n:Nat} {us:List Value},Ha P t=some true→tsz P t=some n→us.length=n→(∀j v,us[j]? = some v→w.cell? ⟨b,o+j,none⟩=some v)→(Instr.loadAt t (.pointer (some ⟨b,o,none⟩))).run P w = .ok (.agg us.toArray) w:=by
    intro b o n us ha hn hl hc
    have:=run_loadCells_list (P:=P) w ⟨b,o,none⟩ us (fun j v hj=>by rw[Eg];exact hc j v hj)
    rw[hl] at this
    simp only[Instr.loadAt,Instr.sureAddr,Sem.run_bind,Sem.run_pure,Result.andThen_ok,loadVar,J1 ha,if_true,C3 hn,this]
  have sca:∀{b o:Nat} {v:Value},Ha P t=some false→w.cell? ⟨b,o,none⟩=some v→(Instr.loadAt t (.pointer (some ⟨b,o,none⟩))).run P w = .ok v w:=by
    intro b o v ha hc
    simp[Instr.loadAt,Instr.sureAddr,loadVar,J1 ha,hc,go_sem]
  unfold Kt at hl
  split at hl
  · rename_i b off
    simp only[VR] at hx
    obtain⟨y,κ,hφ,rfl⟩:=hx
    split at hl
    · rename_i c e hb
      obtain⟨vs,e1,e2⟩:=hr.rowAt hb hφ
      have cell:∀j v,vs.toList[j]? = some v→w.cell? ⟨y,j,none⟩=some v:=fun j v hj=>by simp[World.cell?,e1];simpa using hj
      split at hl
      · rename_i ha
        split at hl
        · rename_i n hn
          cases hc:Nat.ble (off+n) c.length with
          |false=>rw[hc] at hl;cases hl
          |true =>
            rw[hc,cond_true] at hl;cases hl
            have hle:=Dz hc
            have hlen:=e2.length
            refine⟨_,agg ha hn (us:=(vs.toList.drop off).take n) (by simp at hlen ⊢;omega) (fun j v hj=>cell _ _ ?_),by simp only[VR];exact⟨_,(e2.drop off).take n,rfl⟩⟩
            obtain⟨hlt,_⟩:=List.getElem?_eq_some_iff.1 hj
            rw[List.getElem?_take_of_lt (by simp at hlt;omega),List.getElem?_drop] at hj
            exact hj
        · cases hl
      · rename_i ha
        obtain⟨v,h1,h2⟩:=e2.get hl
        exact⟨v,sca ha (cell _ _ h1),h2⟩
      · cases hl
    · cases hl
  · rename_i l
    simp only[VR] at hx
    obtain⟨b,o,u,rfl,⟨vs,hvs,rfl⟩,hlie⟩:=hx
    have hcs:(Value.agg vs.toArray).cells.toList=vs:=by simp[Value.cells]
    rw[hcs] at hlie
    split at hl
    · rename_i ha
      split at hl
      · rename_i n hn
        obtain⟨h3,h4⟩:=Eb (f:=none) hl
        cases h4
        have hlen:=hvs.length
        refine⟨_,agg ha hn (us:=vs) (by rw[hlen,Nat.eq_of_beq_eq_true h3]) (fun j v hj=>Ku hr.fro hlie hj),by simp only[VR];exact⟨vs,hvs.mono (Phi.le_fz φ),rfl⟩⟩
      · cases hl
    · rename_i ha
      split at hl
      · rename_i a l'
        cases hl
        obtain⟨v,vs',rfl,h1,_⟩:=hvs.cons_inv
        exact⟨v,sca ha (by have:=Ku hr.fro hlie (j:=0) rfl;simpa using this),h1.mono (Phi.le_fz φ)⟩
      · cases hl
    · cases hl
  · rename_i a hna
    simp only[VR] at hx
    obtain⟨b,o,u,rfl,hu,hlie⟩:=hx
    split at hl
    · rename_i ha
      obtain⟨h3,h4⟩:=Eb (f:=none) hl
      cases h4
      have h1:=(hu.one h3).2
      rw[h1] at hlie
      exact⟨u,sca ha (by have:=Ku hr.fro hlie (j:=0) rfl;simpa using this),hu.mono (Phi.le_fz φ)⟩
    · cases hl
  · cases hl
theorem Q57 {t:Nat} {a v:AV} {av vv:Value} {h':AH} (hs:Ry P t a v h=some h') (ha:VR φ a av) (hv:VR φ v vv) (r:Rel B φ h w):∃w',(Instr.storeAt t av vv).run P w = .ok () w'∧Rel B φ h' w':=by
  unfold Ry at hs
  split at hs
  · rename_i b off
    simp only[VR] at ha
    obtain⟨x,κ,hφ,rfl⟩:=ha
    split at hs
    · rename_i n hn
      split at hs
      · rename_i c e hb
        obtain⟨hc,h4⟩:=Eb (f:=none) hs
        cases h4
        simp only[Bool.and_eq_true,Bool.not_eq_true'] at hc
        obtain⟨⟨⟨c1,c2⟩,c3⟩,c4⟩:=hc
        have hcells:=hv.cells c2
        have hlen:vv.cells.size=n:=by have:=hcells.length;simp only[Array.length_toList] at this;rw[this];exact Nat.eq_of_beq_eq_true c1
        obtain⟨vs,e1,e2⟩:=r.rowAt hb hφ
        have hlv:=e2.length
        have hln:=Nat.eq_of_beq_eq_true c1
        have c3':=Dz c3
        simp only[Array.length_toList] at hlv
        have hrun:=run_storeCells_at P x off e vv.cells.toList 0 vs w e1 (by simp;omega) (hcells.ones c4)
        have hst:(Instr.storeAt t (.pointer (some ⟨x,off,none⟩)) vv).run P w=(storeCells ⟨x,off,none⟩ vv.cells.toList).run P w:=by
          simp only[Instr.storeAt,Instr.sureAddr,Sem.run_bind,Sem.run_pure,Result.andThen_ok,storeVar,C3 hn]
          rw[if_neg (by simp[hlen])]
        refine⟨_,hst.trans hrun,r.set hb rfl rfl hφ rfl rfl rfl (by simp) (fun j hj=>setRow_other w x j _ hj) ⟨x,κ,_,hφ,setRow_heap w x vs _ e _ e1,?_⟩⟩
        simp only[List.toList_toArray,Nat.add_zero]
        rw[←hln,←hcells.length]
        exact((e2.take off).append hcells).append (e2.drop _)
      · cases hs
    · cases hs
  · cases hs
end
end Sv
end
section
open Go Go.RowKit
namespace Sv
theorem Q7b {P : Program} (w : World) {base : Nat} {t tx ty e : TypeId} {i : TypeInfo} {z : Value} (ht : P.underlying t = some (.slice e)) (hi : P.info? e = some i) (hz : i.zero = some z) (hzs : z.cells.size = i.size) (hsz : 0 < i.size)
    {v:Value} {n:Nat} {xs:List Value} (hown:w.ownsRow base e i.size v n xs) {x:Value} {m:Nat} {news:List Value} (hs:Src P i.size tx x m news w) (h63:n+m≤9223372036854775807) (hbytes:(n+m)*i.bytes≤140737488355328) (hbase:base≤w.heap.size) :
    ∃v' w',(Builtin.append_ #[t,tx] ty #[v,x]).run P w = .ok v' w'∧w'.ownsRow base e i.size v' (n+m) (xs++news)∧w.grownBy w' v.ownBlock∧(v'.ownBlock=v.ownBlock∨v'.ownBlock=some w.heap.size):=by
  have hl:=hs.newsLen
  have hlen:(xs++news).length=(n+m)*i.size:=by rw[List.length_append,hown.1,hl,Nat.add_mul]
  have grown : ∀ (old : Nat), old < n + m → ∀ (row : Option Nat),
      (w.drew.alloc (.cells ((xs++news).toArray++Builtin.zeroCells z.cells (grownCap w (n+m) old e-(n+m))) e)).ownsRow base e i.size
        (.slice (some ⟨w.heap.size,0,none⟩) (n+m) (grownCap w (n+m) old e)) (n+m) (xs++news) ∧
      w.grownBy (w.drew.alloc (.cells ((xs++news).toArray++Builtin.zeroCells z.cells (grownCap w (n+m) old e-(n+m))) e)) row:=by
    intro old ho row
    have hge:=grownCap_ge w (n+m) old e
    have hcm:grownCap w (n+m) old e≤maxLen:=grownCap_le_maxLen w (n+m) old e (by unfold maxLen;omega)
    refine⟨⟨hlen,.inr ⟨w.heap.size,_,_,rfl,hbase,heap_alloc_new w.drew _,hge,hcm,?_,?_⟩⟩,⟨rfl,rfl,rfl,by simp,fun k hk _=>heap_alloc_old w.drew _ hk⟩⟩
    · simp only[Array.size_append,List.size_toArray,size_zeroCells,hzs,hlen,←Nat.add_mul]
      congr 1
      omega
    · simp only[Array.toList_append]
      rw[←hlen]
      exact List.take_left
  rcases hown.2 with⟨rfl,rfl⟩|⟨g,cap,cur,rfl,hbg,hg,hnc,hcm,hcs,htake⟩
  · have hx:xs=[]:=List.eq_nil_of_length_eq_zero (by simpa using hown.1)
    subst hx
    by_cases hm:m=0
    · subst hm
      have hn:news=[]:=List.eq_nil_of_length_eq_zero (by simpa using hl)
      subst hn
      refine⟨.slice none 0 0,w,?_,World.ownsRow_nil w base e i.size,⟨rfl,rfl,rfl,Nat.le_refl _,fun _ _ _=>rfl⟩,Or.inl rfl⟩
      rcases hs.kind with⟨e',hk⟩|hk<;>simp[Builtin.append_,run_underlying ht,run_underlying hk,sizeOf,typeInfo,hi,hs.len,hs.cells,storeCells]
    · have hold:(Builtin.firstCells i.size 0 (.slice none 0 0)).run P w.drew = .ok ([]:List Value).toArray w.drew:=run_firstCells_none (P:=P) w.drew i.size 0 0 0
      have hr:=run_append_grow_src (P:=P) w t tx ty e i z ht hi hz none 0 0 [] hold x m news hs (by omega) (by omega) (growslice_fits (by omega) hbytes)
      have hgr:=grown 0 (by omega) (Value.ownBlock (.slice none 0 0))
      exact⟨_,_,hr,hgr.1,hgr.2,Or.inr rfl⟩
  · by_cases hroom:n+m≤cap
    · have hfit:n*i.size+news.length≤cur.size:=by rw[hl,hcs,←Nat.add_mul];exact Nat.mul_le_mul_right _ hroom
      have hst:=run_storeCells_at P g (n*i.size) e news 0 cur w hg (by simpa using hfit) hs.one
      have hr:(Builtin.append_ #[t,tx] ty #[.slice (some ⟨g,0,none⟩) n cap,x]).run P w = .ok (.slice (some ⟨g,0,none⟩) (n+m) cap) (w.setRow g (cur.toList.take (n*i.size)++news++cur.toList.drop (n*i.size+news.length)).toArray):=by
        simp only[Nat.add_zero] at hst
        rcases hs.kind with⟨e',hk⟩|hk<;>simp[Builtin.append_,run_underlying ht,run_underlying hk,sizeOf,typeInfo,hi,hs.len,hroom,hs.cells,Addr.add_lit,hst]
      refine⟨_,_,hr,⟨hlen,.inr ⟨g,cap,_,rfl,hbg,setRow_heap w g cur _ e _ hg,hroom,hcm,?_,?_⟩⟩,⟨rfl,rfl,rfl,by simp,fun k _ hk=>setRow_other w g k _ (fun e=>hk (by simp[Value.ownBlock,e]))⟩,Or.inl rfl⟩
      · simp only[List.size_toArray,List.length_append,List.length_take,List.length_drop,Array.length_toList]
        omega
      · rw[htake,←hlen]
        exact List.take_left
    · have Bn:∀j u,xs[j]? = some u→w.drew.cell? ((⟨g,0,none⟩:Addr).add j)=some u:=hown.cells (g:=g) rfl
      have hold:=run_firstCells_some (P:=P) w.drew i.size n ⟨g,0,none⟩ n cap xs hown.1 Bn
      have hr:=run_append_grow_src (P:=P) w t tx ty e i z ht hi hz (some ⟨g,0,none⟩) n cap xs hold x m news hs (by omega) (by omega) (growslice_fits (by omega) hbytes)
      have hgr:=grown cap (by omega) (Value.ownBlock (.slice (some ⟨g,0,none⟩) n cap))
      exact⟨_,_,hr,hgr.1,hgr.2,Or.inr rfl⟩
noncomputable def E3 (sz:Nat):Nat→List AV→List AV
  |0,_=>[]
  |m+1,c=>(bif Nat.beq sz 1 then (match c with|a::_=>a | [] => .tup []) else .agg (c.take sz))::E3 sz m (c.drop sz)
noncomputable def R4 (P:Program) (sz tx:Nat) (x:AV) (h:AH):Option (Nat × List AV):=match x with
  |.sl b 0 n _ _=>match Fa P tx with
    |some _=>match Bh b h with
      |some (.row c _)=>bif Nat.beq (n*sz) c.length&&frzl c&&ones c&&Nat.blt 0 sz then some (n,E3 sz n c) else none
      |_=>none
    |none=>none
  |.nils=>match Fa P tx with
    |some _=>some (0,[])
    |none=>none
  |.row s n g=>match Fa P tx with
    |some _=>bif Nat.beq s sz then some (n,(List.range n).map g) else none
    |none=>none
  |.own b=>match Fa P tx with
    |some _=>match Bh b h with
      |some (.grow es _ s)=>bif Nat.beq s sz then some (es.length,es) else none
      |_=>none
    |none=>none
  |.str l=>bif Ll P tx&&Nat.beq sz 1 then some (l.length,l.map fun c => .int .u8 (c.toNat:Int)) else none
  |_=>none
section
variable {P : Program} {φ : Phi} {B : Bas} {w : World} {h : AH}
theorem Iz {vs:List Value} {sz:Nat} (h:∀u∈vs,u.cells.size=sz):(vs.flatMap fun u=>u.cells.toList).length=vs.length*sz:=by
  induction vs with
  |nil=>simp
  |cons v r ih =>
    rw[List.flatMap_cons,List.length_append,ih (fun u hu=>h u (by simp[hu])),List.length_cons,Nat.add_mul,Nat.one_mul,Array.length_toList,h v (by simp)];omega
theorem VRl.of_range {f:Nat→AV} {u:Nat→Value} {n:Nat} (h:∀i,i < n→VR φ (f i) (u i)):VRl φ ((List.range n).map f) ((List.range n).map u) :=
  VRl.of_map fun i hi=>h i (by simpa using hi)
theorem Rx {α:Type} {l:List α} (h:0 < l.length):∃a r,l=a::r:=by cases l with|nil=>simp at h|cons a r=>exact⟨a,r,rfl⟩
theorem Q2 {sz:Nat} (hsz:0 < sz):∀(m:Nat) (c:List AV) (us:List Value),VRl φ c us→us.length=m*sz→ones c=true→(∀u∈us,u.oneCell'=true)→∃vs,VRl φ (E3 sz m c) vs∧vs.length=m∧(∀u∈vs,u.cells.size=sz)∧(vs.flatMap fun u=>u.cells.toList)=us
  |0,c,us,hv,hl,ho,h1=>by
    have:us=[]:=List.eq_nil_of_length_eq_zero (by simpa using hl)
    subst this
    exact⟨[],.nil,rfl,by simp,rfl⟩
  |m+1,c,us,hv,hl,ho,h1=>by
    have hlen:=hv.length
    have hms:(m+1)*sz=m*sz+sz:=by rw[Nat.add_mul,Nat.one_mul]
    have ho':ones (c.drop sz)=true:=by
      clear hv hl hlen
      induction c generalizing sz with
      |nil=>simp[ones]
      |cons a r ih =>
        cases sz with
        |zero=>exact ho
        | succ s => simp only [List.drop_succ_cons]; simp only [ones, Bool.and_eq_true] at ho
                    cases s with
                    |zero=>simpa using ho.2
                    |succ s=>exact ih (by omega) ho.2 (by rw[Nat.add_mul,Nat.one_mul])
    obtain⟨vs,k1,k2,k3,k4⟩:=Q2 hsz m (c.drop sz) (us.drop sz) (hv.drop sz) (by rw[List.length_drop];omega) ho' (fun u hu=>h1 u (List.mem_of_mem_drop hu))
    by_cases hs1:sz=1
    · subst hs1
      obtain⟨v,r,rfl⟩:=Rx (l:=us) (by omega)
      obtain⟨a,c',rfl⟩:=Rx (l:=c) (by simp only[List.length_cons] at hlen;omega)
      obtain⟨v',r',e,q1,q2⟩:=hv.cons_inv
      cases e
      simp only[ones,Bool.and_eq_true] at ho
      have hc:=(q1.one ho.1).2
      refine⟨v::vs,?_,by simp[k2],?_,?_⟩
      · show VRl φ (a::E3 1 m c') (v::vs)
        exact .cons q1 k1
      · intro u hu
        rcases List.mem_cons.1 hu with rfl|hu
        · rw[hc];rfl
        · exact k3 u hu
      · rw[List.flatMap_cons,k4,hc];simp
    · refine⟨.agg (us.take sz).toArray::vs,?_,by simp[k2],?_,?_⟩
      · show VRl φ ((bif Nat.beq sz 1 then _ else .agg (c.take sz))::E3 sz m (c.drop sz)) _
        rw[Hp hs1,cond_false]
        exact .cons (by simp only[VR];exact⟨_,hv.take sz,rfl⟩) k1
      · intro u hu
        rcases List.mem_cons.1 hu with rfl|hu
        · simp[Value.cells];omega
        · exact k3 u hu
      · rw[List.flatMap_cons,k4];simp[Value.cells]
end
end Sv
end
section
open Go Go.RowKit
namespace Sv
theorem Rel.congr {B:Bas} {φ:Phi} {h h':AH} {w:World} (r:Rel B φ h w) (e:∀b,Bh b h'=Bh b h):Rel B φ h' w :=
  ⟨r.below,r.fro,fun b o k=>r.obj b o (by rw[←e];exact k),fun b b' o o' k i j=>r.sep b b' o o' k (by rw[←e];exact i) (by rw[←e];exact j),fun b o k i=>r.gf b o k (by rw[←e];exact i)⟩
mutual
noncomputable def Gj (n:Nat):AV→Bool
  |.own b => !Nat.beq b n
  |.op b _ => !Nat.beq b n
  |.fn _ first cap=>noownl n first&&noownl n cap
  |.ifc _ a=>Gj n a
  |.agg l=>noownl n l
  |.tup l=>noownl n l
  |.cond _ a=>Gj n a
  |_=>true
noncomputable def noownl (n:Nat):List AV→Bool
  |[]=>true
  |a::l=>Gj n a&&noownl n l
end
structure Turn (φ φ':Phi) (b:Nat):Prop where
  m:∀c,φ' c=φ c
  s:∀c,c≠b→φ'.s c=φ.s c
  f:∀k o,φ.f k=some o→φ'.f k=some o
mutual
theorem VR.turn {n:Nat}:∀{a:AV} {φ φ':Phi} {v:Value},Turn φ φ' n→VR φ a v→Gj n a=true→VR φ' a v
  |.bool _,_,_,_,_,k,_=>k
  |.int _ _,_,_,_,_,k,_=>k
  |.str _,_,_,_,_,k,_=>k
  |.ptr _ _,_,_,_,t,k,h=>by simp only[VR] at k ⊢;rw[t.m];exact k
  |.nilp,_,_,_,_,k,_=>k
  |.sl _ _ _ _ _,_,_,_,t,k,h=>by simp only[VR] at k ⊢;rw[t.m];exact k
  |.nils,_,_,_,_,k,_=>k
  |.sle,_,_,_,_,k,_=>k
  |.map _,_,_,_,t,k,h=>by simp only[VR] at k ⊢;rw[t.m];exact k
  |.nilm,_,_,_,_,k,_=>k
  |.fn _ _ _,_,_,_,t,k,h=>by
    simp only[VR] at k ⊢
    simp only[Gj,Bool.and_eq_true] at h
    obtain⟨a,b,e1,e2,r⟩:=k;exact⟨a,b,VRl.turn t e1 h.1,VRl.turn t e2 h.2,r⟩
  |.nilf,_,_,_,_,k,_=>k
  |.ifc _ _,_,_,_,t,k,h=>by
    simp only[VR] at k ⊢
    simp only[Gj] at h
    obtain⟨u,e,r⟩:=k;exact⟨u,VR.turn t e h,r⟩
  |.nili,_,_,_,_,k,_=>k
  |.agg _,_,_,_,t,k,h=>by
    simp only[VR] at k ⊢
    simp only[Gj] at h
    obtain⟨u,e,r⟩:=k;exact⟨u,VRl.turn t e h,r⟩
  |.tup _,_,_,_,t,k,h=>by
    simp only[VR] at k ⊢
    simp only[Gj] at h
    obtain⟨u,e,r⟩:=k;exact⟨u,VRl.turn t e h,r⟩
  |.raw _,_,_,_,_,k,_=>k
  |.row _ _ _,_,_,_,t,k,_=>by
    simp only[VR] at k ⊢
    obtain⟨u,k1,k2⟩:=k
    exact⟨u,fun i hi=>(k1 i hi).mono (D8 t.f),by
      rcases k2 with k2|⟨b,o,c,rfl,k0,k2⟩
      · exact .inl k2
      · exact .inr ⟨b,o,c,rfl,k0,fun i hi=>⟨(k2 i hi).1,by obtain⟨cs,e,fr,q1,q2⟩:=(k2 i hi).2;exact⟨cs,e,fr,t.f _ _ q1,q2⟩⟩⟩⟩
  |.fp _,_,_,_,t,k,_=>by
    simp only[VR] at k ⊢
    obtain⟨b,o,u,e,k1,cs,e',fr,q1,q2⟩:=k
    exact⟨b,o,u,e,k1.mono (D8 t.f),cs,e',fr,t.f _ _ q1,q2⟩
  |.own c,_,_,_,t,k,h=>by
    simp only[VR] at k ⊢
    simp only[Gj,Bool.not_eq_true'] at h
    rw[t.s c (by rintro rfl;rw[Nat.beq_refl] at h;cases h)];exact k
  |.op c _,_,_,_,t,k,h=>by
    simp only[VR] at k ⊢
    simp only[Gj,Bool.not_eq_true'] at h
    rw[t.s c (by rintro rfl;rw[Nat.beq_refl] at h;cases h)];exact k
  |.clo _,_,_,_,t,k,_=>by
    simp only[VR] at k ⊢
    exact⟨k.1.mono (D8 t.f),k.2⟩
  |.smap _ _,_,_,_,t,k,_=>by
    simp only[VR] at k ⊢
    obtain⟨x,es,clk,m,e,e1,e2,e3⟩:=k
    exact⟨x,es,clk,m,e,t.f _ _ e1,e2,fun s=>⟨fun u hu=>((e3 s).1 u hu).mono (D8 t.f),fun hu=>((e3 s).2 hu).mono (D8 t.f)⟩⟩
  |.cond _ _,_,_,_,t,k,h=>by
    simp only[VR] at k ⊢
    simp only[Gj] at h
    exact⟨fun q=>VR.turn t (k.1 q) h,k.2⟩
theorem VRl.turn {n:Nat}:∀{l:List AV} {φ φ':Phi} {vs:List Value},Turn φ φ' n→VRl φ l vs→noownl n l=true→VRl φ' l vs
  |[],_,_,_,_,k,_=>k
  |_::_,_,_,_,t,k,h=>by
    simp only[VRl] at k ⊢
    simp only[noownl,Bool.and_eq_true] at h
    obtain⟨v,vs',e,e1,e2⟩:=k;exact⟨v,vs',e,VR.turn t e1 h.1,VRl.turn t e2 h.2⟩
end
noncomputable def Bp:AV:=.cond false (.tup [])
theorem Tn {φ:Phi} {v:Value}:VR φ Bp v:=by
  unfold Bp VR
  exact⟨fun e=>(by cases e),fun e=>(by cases e)⟩
noncomputable def Hg (b:Nat) (a:AV):AV:=bif Gj b a then a else Bp
theorem R9 {b:Nat} {a:AV} {φ φ':Phi} {v:Value} (t:Turn φ φ' b) (k:VR φ a v):VR φ' (Hg b a) v:=by
  unfold Hg
  cases h:Gj b a with
  |true=>exact VR.turn t k h
  |false=>exact Tn
theorem R8 {b:Nat} {φ φ':Phi} (t:Turn φ φ' b):∀{l:List AV} {vs:List Value},VRl φ l vs→VRl φ' (l.map (Hg b)) vs
  |[],_,k=>by rw[k.nil_inv];exact .nil
  |a::l,_,k=>by
    obtain⟨v,vs',rfl,h1,h2⟩:=k.cons_inv
    exact .cons (R9 t h1) (R8 t h2)
noncomputable def Hx (b:Nat):AO→AO
  |.row c e => .row (c.map (Hg b)) e
  |o=>o
noncomputable def Ei (b:Nat):AH→AH
  |[]=>[]
  |(k,o)::r=>(k,Hx b o)::Ei b r
theorem H6 (b c:Nat):∀h:AH,Bh c (Ei b h)=(Bh c h).map (Hx b)
  |[]=>rfl
  |(k,o)::r=>by
    simp only[Ei,Bh]
    rcases Du k c with⟨e,_⟩|⟨e,_⟩<;>simp only[e,cond_true,cond_false,Option.map_some,H6 b c r]
theorem Rel.grown {B : Bas} {w w' : World} {φ φ' : Phi} {h : AH} (r : Rel B φ h w) {b : Nat} {es es' : List AV} {e sz : Nat} {v v' : Value} (hb : Bh b h = some (.grow es e sz)) (hv : φ.s b = some v) (t : Turn φ φ' b) (hv' : φ'.s b = some v') (hf : φ'.f = φ.f)
    (hg:w.grownBy w' v.ownBlock) (hn:v'.ownBlock=v.ownBlock∨v'.ownBlock=some w.heap.size) (hlt:∀k,v'.ownBlock=some k→k < w'.heap.size) (ha:At B φ' w' b (.grow es' e sz)):Rel B φ' (Ch b (.grow es' e sz) (Ei b h)) w':=by
  have hi:∀k,v.ownBlock=some k→¬B.old k∧k < w.heap.size∧φ.f k=none:=fun k hk=>r.gf b _ k hb (by simp only[img,hv,Option.bind_some,hk])
  have hbelow:Bel B w':=r.below.to hg.os hg.tape hg.output hg.size fun k hk=>hg.block k (r.below.lt hk) (fun q=>(hi k q.symm).1 hk)
  have hsep:∀c o k,c≠b→Bh c h=some o→img φ c o k→some k≠v.ownBlock:=by
    intro c o k hc e1 i1 q
    exact hc (r.sep c b o _ k e1 hb i1 (by simp only[img,hv,Option.bind_some];exact q.symm))
  have himg:∀c o,c≠b→img φ' c (Hx b o)=img φ c o:=by
    intro c o hc
    funext k
    cases o<;>simp only[Hx,img]<;>first|rw[t.m,t.s c hc]|rw[t.m]|rw[t.s c hc]
  have h1:Rel B φ' (Ei b (Da b h)) w':=by
    have getd:∀c o,Bh c (Ei b (Da b h))=some o→∃o1,c≠b∧Bh c h=some o1∧o=Hx b o1:=by
      intro c o k
      rw[H6] at k
      obtain⟨o1,k1,k2⟩:=Option.map_eq_some_iff.1 k
      exact⟨o1,(Dx k1).1,(Dx k1).2,k2.symm⟩
    refine⟨hbelow,fun k o q=>?_,?_,?_,?_⟩
    · rw[hf] at q
      have:=r.fro k o q
      rw[hg.block k (Fc this) (fun e=>by have:=(hi k e.symm).2.2;rw[this] at q;cases q)];exact this
    · intro c o k
      obtain⟨o1,hc,k1,rfl⟩:=getd c o k
      have hk:∀j,img φ c o1 j→w'.heap[j]? = w.heap[j]? := fun j hj=>hg.block j (r.gf c o1 j k1 hj).2.1 (hsep c o1 j hc k1 hj)
      have ho:=r.obj c o1 k1
      cases o1 with
      |row c' e' =>
        obtain⟨x,κ,vs,q1,q2,q3⟩:=ho
        exact⟨x,κ,vs,by rw[t.m];exact q1,(hk x (by simp[img,q1])).trans q2,R8 t q3⟩
      |grow es0 e0 sz0 =>
        obtain⟨u,us,q1,q2,q3,q4⟩:=ho
        exact⟨u,us,by rw[t.s c hc];exact q1,Lw q2 (fun j hj=>hk j (by simp[img,q1,hj])),q3.mono (D8 t.f),q4⟩
      |map es0 clk =>
        obtain⟨x,κ,l,q1,q2,q3⟩:=ho
        exact⟨x,κ,l,by rw[t.m];exact q1,(hk x (by simp[img,q1])).trans q2,q3.mono (D8 t.f)⟩
      |siter s p =>
        obtain⟨x,κ,q1,q2⟩:=ho
        exact⟨x,κ,by rw[t.m];exact q1,(hk x (by simp[img,q1])).trans q2⟩
      |mm g ho' e0 sz0=>exact(show At B φ w c (.mm g ho' e0 sz0) from ho).imp (φ':=φ') ⟨t.m c,t.s c hc,t.f⟩ hk
    · intro c c' o o' k k1 k2 i1 i2
      obtain⟨o1,hc1,e1,rfl⟩:=getd c o k1
      obtain⟨o2,hc2,e2,rfl⟩:=getd c' o' k2
      rw[himg c o1 hc1] at i1;rw[himg c' o2 hc2] at i2
      exact r.sep c c' o1 o2 k e1 e2 i1 i2
    · intro c o k k1 i1
      obtain⟨o1,hc1,e1,rfl⟩:=getd c o k1
      rw[himg c o1 hc1] at i1
      have:=r.gf c o1 k e1 i1
      exact⟨this.1,Nat.lt_of_lt_of_le this.2.1 hg.size,by rw[hf];exact this.2.2⟩
  have h2:Rel B φ' (Ch b (.grow es' e sz) (Ei b (Da b h))) w':=by
    refine h1.add ha fun k hk=>?_
    simp only[img,hv',Option.bind_some] at hk
    have hbk:¬B.old k∧φ'.f k=none:=by
      rcases hn with q|q
      · have:=hi k (by rw[←q];exact hk);exact⟨this.1,by rw[hf];exact this.2.2⟩
      · rw[hk] at q;cases q
        refine⟨r.below.fresh,?_⟩
        rw[hf]
        cases hx:φ.f w.heap.size with
        |none=>rfl
        |some x=>have:=Fc (r.fro _ _ hx);omega
    refine⟨hbk.1,hlt k hk,hbk.2,fun c o hc e1 i1=>?_⟩
    rw[H6,H7 hc] at e1
    obtain⟨o1,k1,rfl⟩:=Option.map_eq_some_iff.1 e1
    rw[himg c o1 hc] at i1
    rcases hn with q|q
    · exact hsep c o1 k hc k1 i1 (by rw[←q,hk])
    · rw[hk] at q;cases q
      have:=(r.gf c o1 _ k1 i1).2.1;omega
  refine h2.congr fun c=>?_
  by_cases hc:c=b
  · subst hc;rw[Hl,Hl]
  · rw[G5 _ hc,G5 _ hc,H6,H6,H7 hc]
end Sv
end
end Go.Proofs.YtlmloohlmlahfaaGreatDoor
