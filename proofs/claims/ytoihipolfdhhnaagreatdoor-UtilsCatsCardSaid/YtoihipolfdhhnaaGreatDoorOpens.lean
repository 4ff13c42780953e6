/-
  Arguments that read as data, opened.
-/
import Derived.Test.YtoihipolfdhhnaaGreatDoorCatsB
import Derived.ProofKit
import Derived.OpenShut
import Derived.Deep.Slices
import Derived.SliceStrings
namespace Go.Proofs.YtoihipolfdhhnaaGreatDoor
open Go.ChangeShapes Go.WideShapes Go.ChangeAt Go.RowKit

theorem strs_open {H : Type} {enc : TypeId × Value → H} {W : World} {fuel : Nat} {u : Value} {x : DataW H × List MemPlace} (h : DataW.trod enc Tryz.prog W 0 (fun _ => true) true fuel 22 [u] = some x) :
    ∃ (a : Option Addr) (n c : Nat) (l : List ByteArray), u = .slice a n c ∧ n = l.length ∧ n ≤ c ∧ ∀ i s, l[i]? = some s → ∃ ad, a = some ad ∧ W.cell? (ad.add i) = some (.string s) ∧ ad.block < W.heap.size := by
  rcases open_strings Tryz.underlying22 Tryz.underlying9 (by kernel_rfl) h with ⟨hcs, _⟩ | ⟨a, len, cap, ss, hcs, _, hl, _, hz, _, hcell, _⟩
  · simp only [List.cons.injEq, and_true] at hcs
    exact ⟨none, 0, 0, [], hcs, rfl, Nat.le_refl _, fun i s hi => by simp at hi⟩
  · simp only [List.cons.injEq, and_true] at hcs
    have hz' : ss.length = cap := hz
    refine ⟨some a, len, cap, ss.take len, hcs, by rw [List.length_take]; omega, hl, fun i s hi => ⟨a, rfl, ?_⟩⟩
    have hil := (List.getElem?_eq_some_iff.1 hi).1
    rw [List.length_take] at hil
    rw [List.getElem?_take_of_lt (by omega)] at hi
    have := hcell i (by omega)
    rw [List.getD, hi] at this
    have hlt := World.block_lt_of_cell? W _ this
    rw [addr_add_block] at hlt
    exact ⟨this, hlt⟩

/-- A list of lists of texts that reads as data. -/
theorem open_files {H : Type} {enc : TypeId × Value → H} {W : World} {v : Value} {d : DataW H} {p : List MemPlace} (h : DataW.Trod enc Tryz.prog W 0 (fun _ => true) true 44 v d p) (hv : ∃ a n c, v = .slice a n c) :
    ∃ a n c files, v = .slice a n c ∧ FilesAt W.heap.size W a n c files := by
  obtain ⟨a0, n0, c0, rfl⟩ := hv
  obtain ⟨fuel, hd⟩ := h
  have hd' : DataW.trod enc Tryz.prog W 0 (fun _ => true) true fuel 44 [.slice a0 n0 c0] = some (d, p) := hd
  rcases Deep.open_slice1 Tryz.underlying44 (by kernel_rfl) hd' with ⟨hcs, _⟩ | ⟨a, len, cap, m, n, V, D, Pl, hcs, _, hl, hm, hmm, hx, hcell⟩
  · simp only [List.cons.injEq, and_true] at hcs
    exact ⟨none, 0, 0, [], hcs, ⟨rfl, Nat.le_refl _, fun j x hj => by simp at hj⟩⟩
  · simp only [List.cons.injEq, and_true] at hcs
    have hmm' : m = cap := hmm
    have hk : ∀ i, ∃ l : List ByteArray, i < len → ∃ a' n' c', V i = .slice a' n' c' ∧ n' = l.length ∧ n' ≤ c' ∧ ∀ k s, l[k]? = some s → ∃ ad', a' = some ad' ∧ W.cell? (ad'.add k) = some (.string s) ∧ ad'.block < W.heap.size := by
      intro i
      by_cases hi : i < len
      · obtain ⟨a', n', c', l, h1, h2, h3, h4⟩ := strs_open (hcell i (by omega)).2
        exact ⟨l, fun _ => ⟨a', n', c', h1, h2, h3, h4⟩⟩
      · exact ⟨[], fun h => absurd h hi⟩
    refine ⟨some a, len, cap, (List.range len).map fun i => (hk i).choose, hcs, ⟨by simp, hl, fun j x hj => ?_⟩⟩
    have hjl := (List.getElem?_eq_some_iff.1 hj).1
    simp only [List.length_map, List.length_range] at hjl
    rw [List.getElem?_map, List.getElem?_range hjl] at hj
    simp only [Option.map_some, Option.some.injEq] at hj
    obtain ⟨a', n', c', h1, h2, h3, h4⟩ := (hk j).choose_spec hjl
    have hc := (hcell j (by omega)).1
    have hlt := World.block_lt_of_cell? W _ hc
    rw [addr_add_block] at hlt
    rw [h1] at hc
    rw [hj] at h2 h4
    exact ⟨a, a', n', c', rfl, hc, hlt, h2, h3, h4⟩

end Go.Proofs.YtoihipolfdhhnaaGreatDoor
