/-
  almonerlaw21.UtilsModes: its runs.
-/
import Derived.Test.YtoihipolfdhhnaaGreatDoorModesA
import Derived.Below
namespace Go.Proofs.YtoihipolfdhhnaaGreatDoor.Vm
open Go.RowKit

/-- Does it come to true? -/
noncomputable def isTrue (r : R) : Bool :=
  Option.rec (motive := fun _ => Bool) false (fun x => C.rec (motive_1 := fun _ => Bool) (motive_2 := fun _ => Bool) (fun _ _ => false) (fun _ _ => false) (fun t => t) (fun _ _ => false) false (fun _ _ _ => false) false (fun _ _ _ _ _ => false) false (fun _ _ _ => false) false (fun _ => false) false false (fun _ _ _ => false) (fun _ _ => false) (fun _ _ => false) (fun _ _ _ _ _ _ => false) false (fun _ _ _ _ => false) x.1) r

theorem isTrue_inv {r : R} (h : isTrue r = true) : ∃ m, r = some (.bool true, m) := by
  cases r with
  | none => cases h
  | some x =>
    obtain ⟨c, m⟩ := x
    cases c <;> first | (cases h; done) | skip
    rename_i b
    have : b = true := h
    subst this
    exact ⟨m, rfl⟩

noncomputable def ext8 (f : FuncId) : Option XF := onB (Nat.beq f 213) (some (xCount st8.th)) none

noncomputable def run8 (bad : Bool) : R := (cFun Tryz.prog st8 8).run (F Tryz.prog st8 ext8 50) [.sy .i64 (.tok 0), .sy .i64 (.tok 4), .bool bad] ⟨.nil, 0, []⟩ fun c m => some (c, m)

theorem run8_good : isTrue (run8 false) = true := by kernel_rfl
theorem run8_bad : isTrue (run8 true) = true := by kernel_rfl

theorem ext8_ok (wb : World) : ExtOk Tryz.prog wb st8 ext8 := by
  intro f x h
  unfold ext8 at h
  cases hb : Nat.beq f 213 with
  | false => rw [hb] at h; cases h
  | true =>
    rw [hb] at h
    have := Nat.eq_of_beq_eq_true hb
    subst this
    have hx : x = xCount st8.th := (Option.some.inj (h : some (xCount st8.th) = some x)).symm
    subst hx
    exact xCount_ok (s := st8) fun args w => run_callFunc_extern Tryz.func213 (by kernel_rfl) (by kernel_rfl) (by kernel_rfl) (e := Extern.BytealgCount.count) (by kernel_rfl) args w

theorem modes_calls (W : World) {m was : Int} (bad : Bool) (h1 : -9223372036854775808 ≤ m) (h2 : m ≤ 9223372036854775807) (h3 : -9223372036854775808 ≤ was) (h4 : was ≤ 9223372036854775807) :
    Calls Tryz.prog 8 #[.int .i64 m, .int .i64 was, .bool bad] W (fun e W' => e = .returned (.bool true) ∧ Below W.heap.size W W') := by
  have hrun : isTrue (run8 bad) = true := by
    cases bad
    · exact run8_good
    · exact run8_bad
  obtain ⟨mem, hr⟩ := isTrue_inv hrun
  have hs : st8.ok ⟨fun _ => none, nu m (msk m 511) was (msk was 3071)⟩ := ⟨fun n hn => (by cases hn), sat8 h1 h2 h3 h4, eqs8 m was⟩
  have hm : MRel W ⟨fun _ => none, nu m (msk m 511) was (msk was 3071)⟩ ⟨.nil, 0, []⟩ W :=
    ⟨Sh_nil _, by decide, fun _ _ => rfl, fun b x h => (by cases h), fun b B h => absurd h (Nat.not_lt_zero b), fun b b' B B' x x' h => absurd h (Nat.not_lt_zero b), fun _ _ => rfl, Nat.le_refl _, rfl, rfl, rfl⟩
  refine (run_ok (ext8_ok W) hr hs (vals := [.int .i64 m, .int .i64 was, .bool bad]) rfl hm).mono fun e W' ⟨v, ε', he, _, hv, hM⟩ => ?_
  simp only [C.real, Option.some.injEq] at hv
  subst hv
  exact ⟨he, hM.os, hM.tape, hM.output, hM.size, hM.old⟩

end Go.Proofs.YtoihipolfdhhnaaGreatDoor.Vm
