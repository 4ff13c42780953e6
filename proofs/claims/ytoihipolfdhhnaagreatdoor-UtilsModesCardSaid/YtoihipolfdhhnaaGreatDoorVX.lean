/-
  Vm: calls of functions that have no code of their own.
-/
import Derived.Test.YtoihipolfdhhnaaGreatDoorVM
import Derived.Laws.Externs
import Derived.Lib.Bytealg
namespace Go.Proofs.YtoihipolfdhhnaaGreatDoor.Vm

/-- How often a byte stands in a text. -/
def cntD (θ : List (Int × Int)) (c : Nat) : Nat → Nat → Option Nat
  | 0, _ => some 0
  | n + 1, d => match byteCmp θ (d % 65536) c, cntD θ c n (d / 65536) with
    | some b, some k => some (if b then k + 1 else k)
    | _, _ => none

theorem cntD_ok {θ : List (Int × Int)} {ν : Nat → Int} (hs : Sat θ ν) {c : Nat} (hc : c < 256) : ∀ {n d k : Nat}, cntD θ c n d = some k → Lib.countByte (bytesOf ν n d) (UInt8.ofNat c) = k
  | 0, d, k, h => by simp only [cntD, Option.some.injEq] at h; subst h; simp [bytesOf, Lib.countByte]
  | n + 1, d, k, h => by
    simp only [cntD] at h
    split at h
    · rename_i b k' hb hk
      have ih := cntD_ok hs hc hk
      have h1 := byteCmp_ok hb hs
      have h2 : byteOf ν c = UInt8.ofNat c := by simp [byteOf, hc]
      rw [h2] at h1
      simp only [Option.some.injEq] at h
      subst h
      unfold Lib.countByte at ih ⊢
      simp only [bytesOf, List.count_cons, ih]
      cases b with
      | true => have h3 := of_decide_eq_true h1; simp [h3]
      | false => have h3 := of_decide_eq_false h1; simp [h3]
    · cases h

theorem toI_sub {c : Nat} (h : Nat.ble 18446744073709551616 c = true) : toI c = ((Nat.sub c 18446744073709551616 : Nat) : Int) := by
  rw [toI_nn (ble_le h), nsub]

noncomputable def xCount1 (θ : List (Int × Int)) (n d c : Nat) (k : C → R) : R :=
  onB (Nat.ble 18446744073709551616 c) (onB (Nat.blt (Nat.sub c 18446744073709551616) 256) (onO (cntD θ (Nat.sub c 18446744073709551616) n d) fun z => k (.int .i64 (Nat.add z 18446744073709551616))) none) none

theorem xCount1_inv {θ : List (Int × Int)} {n d c : Nat} {k : C → R} {r : C × Mem} (h : xCount1 θ n d c k = some r) : ∃ (z : Nat) (j : Nat) (u : Nat), toI c = (j : Int) ∧ j < 256 ∧ cntD θ j n d = some z ∧ toI u = (z : Int) ∧ k (.int .i64 u) = some r := by
  obtain ⟨h1, h2⟩ := onB_inv h
  obtain ⟨h3, h4⟩ := onB_inv h2
  obtain ⟨z, h5, h6⟩ := onO_inv h4
  exact ⟨z, _, _, toI_sub h1, blt_lt h3, h5, toI_up z, h6⟩

noncomputable def xCount (θ : List (Int × Int)) : XF :=
  ⟨fun args m k => match args with
    | [.str n d, .int .u8 c] => xCount1 θ n d c fun c => k c m
    | _ => none⟩

theorem xCount_inv {θ : List (Int × Int)} {args : List C} {m : Mem} {k : C → Mem → R} {r : C × Mem} (h : (xCount θ).x args m k = some r) : ∃ n d c, args = [.str n d, .int .u8 c] ∧ xCount1 θ n d c (fun c => k c m) = some r := by
  unfold xCount at h
  simp only at h
  split at h
  · exact ⟨_, _, _, rfl, h⟩
  · cases h

theorem xCount_ok {P : Program} {wb : World} {s : Stat} {f : FuncId} (hf : ∀ (args : Array Value) (w : World), (callFunc f args).run P w = ((Extern.BytealgCount.count args).run P w).andThen fun v w' => .ok (.value v) w') : FunOk P wb s f (xCount s.th).x := by
  intro args m k r h
  obtain ⟨n, d, c, rfl, h1⟩ := xCount_inv h
  obtain ⟨z, j, u, hc, hlt, h5, hu, h6⟩ := xCount1_inv h1
  refine ⟨_, m, h6, rfl, fun ε vals w hs hv hm => .inl ⟨ε, .int .i64 z, w, .refl ε, by simp only [C.real, hu], hm, ?_⟩⟩
  obtain ⟨v1, r1, e1, e2, rfl⟩ := reals_cons hv
  obtain ⟨v2, r2, e3, e4, rfl⟩ := reals_cons e2
  simp only [C.reals, Option.some.injEq] at e4
  subst e4
  simp only [C.real, Option.some.injEq] at e1 e3
  subst e1; subst e3
  rw [hc, hf, Lib.run_countString]
  have e5 : ((j : Int).toNat).toUInt8 = UInt8.ofNat j := by simp
  have e6 := cntD_ok hs.th hlt h5 (ν := ε.ν)
  have e7 : (textOf ε.ν n d).data.toList = bytesOf ε.ν n d := by simp [textOf]
  rw [e5, e7, e6]
  rfl

end Go.Proofs.YtoihipolfdhhnaaGreatDoor.Vm
