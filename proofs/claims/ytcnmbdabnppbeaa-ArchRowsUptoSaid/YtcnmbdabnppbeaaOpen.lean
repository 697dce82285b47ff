/- Arguments opened: slices of strings and of bools, with what the bound on their bulk says. No condition. -/
import Derived.Test.YtcnmbdabnppbeaaRows
import Derived.Test.YtcnmbdabnppbeaaArch6
import Derived.SliceStrings
import Derived.Deep.Grids
import Derived.ProofKit
namespace Go.Proofs.Ytcnmbdabnppbeaa
open Go Go.RowKit Go.ChangeShapes

theorem one_le {H : Type} (d : DataW H) : 1 ≤ Rows.uptoBulk d := by
  cases d with
  | lit l => cases l <;> simp [Rows.uptoBulk]
  | nil => simp [Rows.uptoBulk]
  | ptr d => simp [Rows.uptoBulk]
  | slice elems spare => simp [Rows.uptoBulk]
  | agg parts => simp [Rows.uptoBulk]
  | iface t d => simp [Rows.uptoBulk]
  | map entries => simp [Rows.uptoBulk]
  | held h => simp [Rows.uptoBulk]
theorem length_le {H : Type} (l : List (DataW H)) : l.length ≤ Rows.uptoBulkAll l := by
  induction l with
  | nil => simp [Rows.uptoBulkAll]
  | cons x r ih => have := one_le x; simp only [Rows.uptoBulkAll, List.length_cons]; omega

theorem row_of {W : World} {a : Addr} {n c : Nat} {xs : List Value} (hl : xs.length = n) (hc : ∀ i, i < n → W.cell? (a.add i) = xs[i]?) : RowIs W (.slice (some a) n c) n 1 xs := by
  refine ⟨by omega, ?_⟩
  by_cases hn : n = 0
  · exact .inl ⟨hn, some a, c, by rw [hn]⟩
  · right
    have h0 := hc 0 (by omega)
    have hs : a.spot = none := by
      have : a.add 0 = a := rfl
      rw [this, List.getElem?_eq_getElem (by omega)] at h0
      unfold World.cell? at h0
      cases hsp : a.spot with
      | none => rfl
      | some k => rw [hsp] at h0; split at h0 <;> simp at h0
    obtain ⟨b, o, sp⟩ := a
    simp only at hs; subst hs
    refine ⟨b, o, c, rfl, fun j u hu => ?_⟩
    have hj : j < n := by rw [← hl]; exact (List.getElem?_eq_some_iff.1 hu).1
    have hadd : (⟨b, o, none⟩ : Addr).add j = ⟨b, o + j, none⟩ := by unfold Addr.add; split <;> simp_all
    rw [← hadd, hc j hj, hu]

section
variable {H : Type} {enc : TypeId × Value → H} {P : Program} {W : World} {t e : TypeId} {x : Option Addr} {n c : Nat} {d : DataW H} {p : List MemPlace}
theorem open_names (ht : P.underlying t = some (.slice e)) (he : P.underlying e = some .string) (hc : P.cellsOf e = 1) (h : DataW.Trod enc P W 0 (fun _ => true) true t (.slice x n c) d p) :
    ∃ ns : List (List UInt8), RowIs W (.slice x n c) ns.length 1 (List.map S ns) ∧ bulkS ns ≤ Rows.uptoBulk d := by
  obtain ⟨fuel, hf⟩ := h
  rcases open_strings ht he hc hf with ⟨hcs, hx⟩ | ⟨a, len, cap, ss, hcs, _, hl, hm, hz, hx, hcell, hws⟩
  · simp [Value.cells] at hcs
    obtain ⟨rfl, rfl, rfl⟩ := hcs
    exact ⟨[], ⟨rfl, .inl ⟨rfl, _, _, rfl⟩⟩, Nat.zero_le _⟩
  · simp [Value.cells] at hcs
    obtain ⟨rfl, rfl, rfl⟩ := hcs
    simp only [if_true] at hz
    have hlen : ((ss.take n).map fun s : ByteArray => s.data.toList).length = n := by rw [List.length_map, List.length_take]; omega
    refine ⟨(ss.take n).map fun s => s.data.toList, ?_, ?_⟩
    · rw [hlen]
      refine row_of (by rw [List.length_map]; exact hlen) fun i hi => ?_
      have hi' : i < ss.length := by omega
      rw [hcell i hi']
      simp [List.getElem?_take, hi, List.getElem?_eq_getElem hi', S]
    · simp only [Prod.mk.injEq] at hx
      rw [hx.1]
      have key : ∀ l : List ByteArray, bulkS (l.map fun s => s.data.toList) = Rows.uptoBulkAll (strs (H := H) l) := by
        intro l
        induction l with
        | nil => rfl
        | cons s r ih => simp only [strs, bulkS, List.map_cons, List.sum_cons, Rows.uptoBulkAll, Rows.uptoBulk] at ih ⊢; omega
      rw [key]; simp only [Rows.uptoBulk]; omega
theorem open_flags (ht : P.underlying t = some (.slice e)) (he : P.underlying e = some .bool) (hc : P.cellsOf e = 1) (h : DataW.Trod enc P W 0 (fun _ => true) true t (.slice x n c) d p) :
    ∃ gs : List Bool, RowIs W (.slice x n c) gs.length 1 (List.map Value.bool gs) ∧ gs.length ≤ Rows.uptoBulk d := by
  obtain ⟨fuel, hf⟩ := h
  rcases Go.Deep.open_bools ht he hc hf with ⟨hcs, hx⟩ | ⟨a, len, cap, B, hcs, _, hl, hm, hx, hcell⟩
  · simp [Value.cells] at hcs
    obtain ⟨rfl, rfl, rfl⟩ := hcs
    exact ⟨[], ⟨rfl, .inl ⟨rfl, _, _, rfl⟩⟩, Nat.zero_le _⟩
  · simp [Value.cells] at hcs
    obtain ⟨rfl, rfl, rfl⟩ := hcs
    refine ⟨(List.range n).map B, ?_, ?_⟩
    · rw [List.length_map, List.length_range]
      refine row_of (by simp) fun i hi => ?_
      rw [hcell i (by omega)]
      simp [hi]
    · simp only [Prod.mk.injEq] at hx
      rw [hx.1]
      simp only [List.length_map, List.length_range]
      unfold Go.Deep.boolRow
      simp only [Rows.uptoBulk]
      have h1 := length_le ((List.range n).map fun i => (DataW.lit (H := H) (.bool (B i))))
      rw [List.length_map, List.length_range] at h1
      omega
end
end Go.Proofs.Ytcnmbdabnppbeaa
