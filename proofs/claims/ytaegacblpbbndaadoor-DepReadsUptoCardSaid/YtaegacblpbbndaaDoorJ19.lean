/- The texts EvN of the proof, joined. Each says at its theorems what it proves. -/
import Derived.Test.YtaegacblpbbndaaDoorJ18
set_option linter.unusedSimpArgs false
set_option linter.unusedVariables false
section
namespace Go.Proofs.YtaegacblpbbndaaDoor
open Go Go.RowKit
set_option linter.unusedSimpArgs false
set_option linter.unusedVariables false
namespace Ev
noncomputable def isNew (o : Oper) : Bool := match o.op with
  | .alloc _ => true
  | .box .. => true
  | .buildSlice .. => true
  | .makeSlice .. => true
  | .makeMap _ none => true
  | _ => false
noncomputable def earlyO (P : Program) (o : Oper) : Bool := Nat.beq (kindOf P o) 0 || isNew o
noncomputable def early (P : Program) (ops : Array Oper) (i : Nat) : Bool := match ops.toList[i]? with
  | some o => earlyO P o
  | none => false
noncomputable def evL (ops : Array Oper) (o : Oper) (F : AF) : Operand → Option AV
  | .tmp t => bif hasN (o.looksAt ops) t then evF F (.tmp t) else none
  | x => evF F x
noncomputable def evX (F : AF) (D : List Nat) : Operand → Option AV
  | .tmp t => bif hasN D t then none else evF F (.tmp t)
  | x => evF F x
noncomputable def dirty (P : Program) (ops : Array Oper) : List Nat → List Nat
  | [] => []
  | j :: l => match ops.toList[j]? with
    | some o => match o.dst with
      | some d => bif earlyO P o then d :: dirty P ops l else dirty P ops l
      | none => dirty P ops l
    | none => dirty P ops l
noncomputable def closeE (P : Program) (ops : Array Oper) (i : Nat) : Nat → Array Bool → Array Bool
  | 0, L => L
  | f + 1, L => match (Region.ready .any ops L).filter (fun j => !Nat.beq j i && early P ops j) with
    | [] => L
    | j :: _ => closeE P ops i f (L.setIfInBounds j true)
noncomputable def closedOK (P : Program) (ops : Array Oper) (L : Array Bool) (i : Nat) : Bool := match Region.ready .any ops (closeE P ops i ops.size L) with
  | [j] => Nat.beq j i
  | _ => false
noncomputable def edgeTo (o : Oper) (i : Nat) : Bool := o.after.toList.any (fun e => Region.binds .any e && Nat.beq e.on i)
noncomputable def dstIn (o : Oper) (l : List Nat) : Bool := match o.dst with
  | some d => hasN l d
  | none => false
noncomputable def dstSame (a b : Oper) : Bool := match a.dst with
  | some d => match b.dst with
    | some e => Nat.beq d e
    | none => false
  | none => false
noncomputable def pairO (ops : Array Oper) (i : Nat) (a b : Oper) : Bool := !dstIn b (a.looksAt ops) && !dstSame a b && (!dstIn a (b.looksAt ops) || edgeTo b i)
noncomputable def rowO (ops : Array Oper) (i : Nat) (a : Oper) : List Nat → Bool
  | [] => true
  | j :: l => (match ops.toList[j]? with
    | some b => pairO ops i a b
    | none => false) && rowO ops i a l
noncomputable def ordOK (ops : Array Oper) : List Nat → Bool
  | [] => true
  | i :: l => (match ops.toList[i]? with
    | some a => !dstIn a (a.looksAt ops) && rowO ops i a l
    | none => false) && ordOK ops l
noncomputable def backO (ops : Array Oper) (i : Nat) : List Oper → Bool
  | [] => true
  | o :: l => o.after.toList.all (fun e => !Region.binds .any e || Nat.blt e.on i) && backO ops (i + 1) l
noncomputable def noneIn (i : Nat) : List (Nat × AV × List Nat) → Bool
  | [] => true
  | (_, _, A) :: l => !hasN A i && noneIn i l
noncomputable def coversO (pl : List Nat) : Nat → Bool
  | 0 => true
  | n + 1 => hasN pl n && coversO pl n
noncomputable def drawRun2 (P : Program) (call : Nat → List AV → AH → Rs (CR × AH)) (ops : Array Oper) : List Nat → List (Nat × AV × List Nat) → Array Bool → AF → AH → Rs (AF × AH)
  | [], _, L, F, H => match Region.ready .any ops L with
    | [] => .ok (F, H)
    | _ => .bad 19 0
  | i :: r, pd, L, F, H => match ops.toList[i]? with
    | none => .bad 10 i
    | some o => bif o.guard.isSome || !hasN (Region.ready .any ops L) i then .bad 11 i else
      bif Nat.beq (kindOf P o) 0 then (match pureA P (evL ops o F) o with
        | some a => match F.put o.dst a with
          | some F1 => bif recheck P ops (evX F1 (dirty P ops r)) H (L.setIfInBounds i true) pd && noneIn i pd then drawRun2 P call ops r pd (L.setIfInBounds i true) F1 H else .bad 16 i
          | none => .bad 12 i
        | none => .bad 13 i)
      else bif Nat.beq (kindOf P o) 1 && !isNew o then (match readA P (evX F (dirty P ops r)) o H with
        | some a => match F.put o.dst a with
          | some F1 => (fun E => (fun A => bif recheck P ops (evX F1 (dirty P ops r)) H (L.setIfInBounds i true) ((i, a, A) :: pd) && noneIn i pd && within_ E A && !hasN A i && unlisted L E && justified ops i E E then drawRun2 P call ops r ((i, a, A) :: pd) (L.setIfInBounds i true) F1 H else .bad 16 i) (actsOf P ops E)) (dependsOn ops i L (List.range ops.size) [])
          | none => .bad 12 i
        | none => .bad 14 i)
      else bif isNew o then (match newA P (evL ops o F) o with
        | some (k, ao) => match F.put o.dst (k.av H.nx) with
          | some F1 => bif recheck P ops (evX F1 (dirty P ops r)) (H.add ao) (L.setIfInBounds i true) pd && H.roomy && closedOK P ops L i && o.dst.isSome then drawRun2 P call ops r pd (L.setIfInBounds i true) F1 (H.add ao) else .bad 16 i
          | none => .bad 12 i
        | none => .bad 15 i)
      else match opValX P call (evX F (dirty P ops r)) o H with
        | .ok (.ret a, H1) => match F.put o.dst a with
          | some F1 => bif recheck P ops (evX F1 (dirty P ops r)) H1 (L.setIfInBounds i true) pd && closedOK P ops L i && Nat.ble H.nx H1.nx then drawRun2 P call ops r pd (L.setIfInBounds i true) F1 H1 else .bad 16 i
          | none => .bad 12 i
        | .ok (.pan _, _) => .bad 17 i
        | .bad c x => .bad c x
noncomputable def firstO (P : Program) (ops : Array Oper) (f : Oper → Bool) : List Nat → Option Nat
  | [] => none
  | i :: l => match ops.toList[i]? with
    | some o => bif f o then some i else firstO P ops f l
    | none => firstO P ops f l
noncomputable def mkOrder (P : Program) (ops : Array Oper) : Nat → Array Bool → List Nat
  | 0, _ => []
  | f + 1, L => match Region.ready .any ops L with
    | [] => []
    | i :: r => match firstO P ops (fun o => Nat.beq (kindOf P o) 0) (i :: r) with
      | some j => j :: mkOrder P ops f (L.setIfInBounds j true)
      | none => match firstO P ops (fun o => Nat.beq (kindOf P o) 1) (i :: r) with
        | some j => j :: mkOrder P ops f (L.setIfInBounds j true)
        | none => match firstO P ops (fun o => !isNew o) (i :: r) with
          | some j => j :: mkOrder P ops f (L.setIfInBounds j true)
          | none => i :: mkOrder P ops f (L.setIfInBounds i true)
noncomputable def planned2 (ops : Array Oper) (pl : List Nat) : Bool := ordOK ops pl && backO ops 0 ops.toList && coversO pl ops.size && Region.noSelect ops
noncomputable def drawn2By (P : Program) (call : Nat → List AV → AH → Rs (CR × AH)) (ops : Array Oper) (pl : List Nat) (F : AF) (H : AH) : Rs (AX × AF × AH) :=
  bif planned2 ops pl then (match drawRun2 P call ops pl [] (Array.replicate ops.size false) F H with
    | .ok (F', H') => .ok (.normal, F', H')
    | .bad c x => .bad c x) else .bad 18 1
noncomputable def drawn2 (P : Program) (call : Nat → List AV → AH → Rs (CR × AH)) (ops : Array Oper) (F : AF) (H : AH) : Rs (AX × AF × AH) := drawn2By P call ops (mkOrder P ops ops.size (Array.replicate ops.size false)) F H
end Ev
end Go.Proofs.YtaegacblpbbndaaDoor
end
