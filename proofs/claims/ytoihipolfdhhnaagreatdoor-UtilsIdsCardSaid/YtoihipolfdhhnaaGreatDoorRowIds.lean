/-
  Proved: almonerlaw21.UtilsIds returns true for every cred, and changes nothing that came in. Its conditions are those of the given card: the package-level variables that the row lists hold what the program's text lays.
-/
import Derived.Test.YtoihipolfdhhnaaGreatDoorTie
import Derived.Test.YtoihipolfdhhnaaGreatDoorCards
import Derived.Test.YtoihipolfdhhnaaGreatDoorLawIds
import Derived.ProofKit
import Derived.OpenShut
import Derived.LaidMore
import Derived.Lay
import Derived.SevenTiedAt
import Derived.Stop.Joined
import Derived.Stop.LaidErr
import Derived.Carry
namespace Go.Proofs.YtoihipolfdhhnaaGreatDoor
open Go.ChangeShapes Go.WideShapes Go.ChangeAt Go.RowKit

noncomputable abbrev laidL : List (String × DataW Unit) := Rows.utilsIdsRow.laid

theorem ownTryz : ownKnob Tryz.prog.godebug = none := by kernel_rfl
theorem laidOutTryz : laidOutB Tryz.prog = true := by kernel_rfl

theorem base_of_laid {W : World} (h : laidMetH Tryz.prog laidL W) : Base W := by
  rw [MakeChecks.laidMetH_plain _ _ _ (by kernel_rfl)] at h
  have h2 := laidMet.tail (laidMet.tail h)
  exact Lib.tabIs_of_head (g := 1) (t := 179) (e := 75) (n := 20) (by kernel_rfl) (by kernel_rfl) (by kernel_rfl) (by kernel_rfl) (by kernel_rfl) (by kernel_rfl) h2

set_option maxRecDepth 100000 in
/-- A cred that reads as data: five ints. -/
theorem open_cred {H : Type} {enc : TypeId × Value → H} {W : World} {base : Nat} {v : Value} {d : DataW H} {p : List MemPlace} (hv : Value.okWide Tryz.prog W .any base 33 v) (h : DataW.Trod enc Tryz.prog W 0 (fun _ => true) true 33 v d p) :
    ∃ c : CredD, v = .agg (plainR c.cs) ∧ CredIn c := by
  obtain ⟨cs, rfl, hsz⟩ := okWide_struct Tryz.underlying33 hv
  obtain ⟨fuel, hd⟩ := h
  obtain ⟨xs, n, _, _, hl, hlen, hf⟩ := DataW.trod_struct Tryz.underlying33 hd
  have hc : ∀ i, i < 5 → ∃ z : Int, cs[i]? = some (.int .i64 z) ∧ -9223372036854775808 ≤ z ∧ z ≤ 9223372036854775807 := by
    intro i hi
    have h3 : Tryz.prog.cellsOf 3 = 1 := by kernel_rfl
    have key : ∀ f : Field, f.type = 3 → f.offset = i → DataW.trod enc Tryz.prog W 0 (fun _ => true) true n f.type ((cs.toList.drop f.offset).take (Tryz.prog.cellsOf f.type)) = xs[i]? → ∃ z : Int, cs[i]? = some (.int .i64 z) ∧ -9223372036854775808 ≤ z ∧ z ≤ 9223372036854775807 := by
      intro f e1 e2 e3
      rw [e1, e2, h3] at e3
      have hlen5 : xs.length = 5 := hlen
      rw [List.getElem?_eq_getElem (by omega)] at e3
      obtain ⟨z, g1, _, g3⟩ := DataW.trod_int Tryz.underlying3 e3
      have g4 : (cs.toList.drop i)[0]? = some (.int .i64 z) := by
        have : ((cs.toList.drop i).take 1)[0]? = some (.int .i64 z) := by rw [g1]; rfl
        rwa [List.getElem?_take_of_lt (by decide)] at this
      rw [List.getElem?_drop, Nat.add_zero, Array.getElem?_toList] at g4
      refine ⟨z, g4, ?_⟩
      simp only [Lit.wf, Bool.and_eq_true, decide_eq_true_eq] at g3
      have m1 : IntKind.i64.min = -9223372036854775808 := by decide
      have m2 : IntKind.i64.max = 9223372036854775807 := by decide
      rw [m1, m2] at g3
      exact g3
    match i, hi with
    | 0, _ => exact key _ rfl rfl (hf 0 _ rfl)
    | 1, _ => exact key _ rfl rfl (hf 1 _ rfl)
    | 2, _ => exact key _ rfl rfl (hf 2 _ rfl)
    | 3, _ => exact key _ rfl rfl (hf 3 _ rfl)
    | 4, _ => exact key _ rfl rfl (hf 4 _ rfl)
  obtain ⟨z0, a0, b0, e0⟩ := hc 0 (by decide)
  obtain ⟨z1, a1, b1, e1⟩ := hc 1 (by decide)
  obtain ⟨z2, a2, _, _⟩ := hc 2 (by decide)
  obtain ⟨z3, a3, b3, e3⟩ := hc 3 (by decide)
  obtain ⟨z4, a4, b4, e4⟩ := hc 4 (by decide)
  have h5 : Tryz.prog.cellsOf 33 = 5 := by kernel_rfl
  rw [h5] at hsz
  refine ⟨⟨z0, z1, z2, z3, z4⟩, ?_, ⟨b0, e0, b1, e1, b3, e3, b4, e4⟩⟩
  congr 1
  apply Array.ext'
  apply List.ext_getElem?
  intro i
  rw [Array.getElem?_toList]
  match i with
  | 0 => rw [a0]; rfl
  | 1 => rw [a1]; rfl
  | 2 => rw [a2]; rfl
  | 3 => rw [a3]; rfl
  | 4 => rw [a4]; rfl
  | i + 5 => rw [Array.getElem?_eq_none (by omega)]; simp [plainR, CredD.cs]

set_option maxRecDepth 100000 in
theorem ids_lifted (os : Os) (started : os.Started) (H : Type) (enc : TypeId × Value → H) :
    ReturnsInHanded {} Tryz.checked os 7 .any (fun w args => (Rows.utilsIdsSpec.pre enc Tryz.prog Tryz.f7 Rows.utilsIdsRow.domain false w args ∧ laidMetH Tryz.prog laidL w) ∧ sizedMet enc Tryz.prog Tryz.f7 (OpenSpec.ofChange Rows.utilsIdsSpec) false w args)
      (Rows.utilsIdsSpec.post enc Tryz.prog Tryz.f7 false true false false) := by
  refine returnsInHanded_of_change_and (C := Tryz.checked) (X := fun w _ => laidMetH Tryz.prog laidL w) (fun _ _ _ hh h => h.of_heap hh) ownTryz started (by kernel_rfl) Tryz.func7
    (ChangeSpec.witness_shaped (enc := enc) (C := Tryz.checked) (os := os) (X := fun w _ => laidMetH Tryz.prog laidL w) false (World.laidAll Tryz.prog os laidL) #[.agg #[.int .i64 0, .int .i64 0, .int .i64 0, .int .i64 0, .int .i64 0]] 8 (World.laidAll_os _ _ _)
      (World.shaped_of_ZipB (by kernel_rfl) (by kernel_rfl)) (by kernel_rfl) (by kernel_rfl) (by kernel_rfl)
      (by rw [MakeChecks.laidMetH_plain _ _ _ (by kernel_rfl)]; exact laidMet_laidAll _ (by kernel_rfl) (by kernel_rfl))) ?_
  intro W base args ds gs before hval0 hW hc _ hL _
  have hval : ∀ (j : Nat) t v, Tryz.f7.params[j]? = some t → args[j]? = some v → Value.okWide Tryz.prog W .any base t v := hval0
  have hW' := hW
  have hlt := hW.lt
  obtain ⟨p, q, hA0, hV, rfl, _, _⟩ := hW
  have hA : DataW.TrodAll enc Tryz.prog W 0 (fun _ => true) true Tryz.f7.params.toList args.toList ds p := hA0
  rw [Tryz.params7] at hA hval
  obtain ⟨v0, d0, rfl, rfl, h0⟩ := trodAll_one hA
  obtain ⟨rfl, rfl⟩ := trodVars_none hV
  obtain ⟨c, rfl, hci⟩ := open_cred (hval 0 33 v0 rfl rfl) h0
  refine (ids_calls W (base_of_laid hL) c hci).mono fun e W' ⟨he, hn, _⟩ => ?_
  subst he
  have hb : Below W.heap.size W W' := ⟨hn.os, hn.tape, hn.output, hn.size, hn.block⟩
  refine ⟨_, rfl, _, _, _, [], p, [], hW', trodAll_mk1 (shut_bool Tryz.underlying4 true), trodAll_mk1 (Below.trod laidOutTryz (by kernel_rfl) (of_decide_eq_true (by kernel_rfl)) h0 hb (fun x hx => hlt x (by simpa using hx))), rfl, hb.frame _, fun h => by cases h⟩

theorem ids_holds : Rows.UtilsIdsSaid :=
  OpenClaim.holds_of_wide 7 Tryz.f7 rfl rfl rfl rfl rfl rfl rfl ⟨rfl, rfl, rfl, rfl, rfl⟩ rfl rfl rfl rfl rfl (by kernel_rfl) Tryz.func7 (by kernel_rfl)
    (of_decide_eq_true (by kernel_rfl)) (by unfold Func.isWrapper; first | (rw [if_pos (by decide +kernel)]; kernel_rfl) | (rw [if_neg (by decide +kernel)]; exact ⟨rfl, rfl⟩))
    (fun os started H enc _ => ids_lifted os started H enc)

theorem utilsIds_card : Rows.UtilsIdsCardSaid :=
  Claim7.holds_tied_plain_at .later [] [.data, .data, .data, .data, .sentinel, .sentinel, .pinned] true (true, "86c3dfaf5aeedf084ef2f5a272482fae216192ac7a7a4d5e553b5261e3925464") true ids_holds (fun _ h => by cases h) (by kernel_rfl) (fun _ h => by cases h) utilsIds_row_tie rfl ⟨rfl, rfl⟩ (by kernel_rfl) rfl
    (fun f fn hf hfn => by
      obtain rfl : f = 7 := Option.some.inj ((show Tryz.prog.funcNamed "almoner/almonerlaw21.UtilsIds" = some 7 by kernel_rfl).symm.trans hf) |>.symm
      obtain rfl : fn = Tryz.f7 := (Option.some.inj (Tryz.func7.symm.trans hfn)).symm
      exact ⟨by kernel_rfl, fun j t ht => by
        rw [Tryz.params7] at ht
        have hm : t ∈ [33] := by simpa using Array.mem_of_getElem? ht
        have hall : ([33].all fun u => !Tryz.prog.wantsStandIn u) = true := by kernel_rfl
        exact (show Tryz.prog.wantsStandIn t = false by simpa using List.all_eq_true.1 hall t hm)⟩)
    (by kernel_rfl)

end Go.Proofs.YtoihipolfdhhnaaGreatDoor
