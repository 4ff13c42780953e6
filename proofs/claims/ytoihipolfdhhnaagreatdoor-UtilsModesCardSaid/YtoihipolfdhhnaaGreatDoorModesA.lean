/-
  almonerlaw21.UtilsModes: what the numbers are called.
-/
import Derived.Test.YtoihipolfdhhnaaGreatDoorVX
import Derived.Test.YtoihipolfdhhnaaGreatDoorProg
namespace Go.Proofs.YtoihipolfdhhnaaGreatDoor.Vm

def dg (i : Nat) : SE := .bin .sub .i64 (.tok i) (.lit 48)
def em : SE := .bin .add .i64 (.bin .add .i64 (.bin .mul .i64 (dg 1) (.lit 64)) (.bin .mul .i64 (dg 2) (.lit 8))) (dg 3)
def ch (i : Nat) : SE × SE := (.cv .u8 (.bin .add .u64 (.lit 48) (.cv .u64 (dg i))), .tok i)

/-- Number 0 is the mode that comes in, 1 to 3 are the three digits' letters, 4 is the mode that was, 5 is what is left of it. -/
def st8 : Stat := ⟨[], [(-9223372036854775808, 9223372036854775807), (48, 55), (48, 55), (48, 55), (-9223372036854775808, 9223372036854775807), (0, 3071)],
  [(.bin .and .i64 (.tok 0) (.lit 511), em),
   (.bin .and .i64 (.bin .shr .i64 em (.lit 6)) (.lit 7), dg 1),
   (.bin .and .i64 (.bin .shr .i64 em (.lit 3)) (.lit 7), dg 2),
   (.bin .and .i64 em (.lit 7), dg 3), ch 1, ch 2, ch 3,
   (.bin .and .i64 (.tok 4) (.lit 3071), .tok 5),
   (.bin .and .i64 (.tok 5) (.lit 3071), .tok 5)]⟩

def msk (m : Int) (k : Nat) : Nat := (BitVec.ofInt 64 m &&& BitVec.ofNat 64 k).toNat

/-- The letters of a mode of nine bits. -/
def nu (m x was y : Int) : Nat → Int
  | 0 => m
  | 1 => 48 + x / 64
  | 2 => 48 + x / 8 % 8
  | 3 => 48 + x % 8
  | 4 => was
  | 5 => y
  | _ => 0

theorem msk_lt (m : Int) : msk m 511 < 512 := by
  have h : (BitVec.ofInt 64 m &&& BitVec.ofNat 64 511).toNat ≤ 511 := by
    rw [BitVec.toNat_and]
    exact Nat.and_le_right
  unfold msk
  omega

theorem msk_le (m : Int) : msk m 3071 ≤ 3071 := by
  have h : (BitVec.ofInt 64 m &&& BitVec.ofNat 64 3071).toNat ≤ 3071 := by
    rw [BitVec.toNat_and]
    exact Nat.and_le_right
  unfold msk
  omega

theorem wrap_small {n : Int} (h0 : 0 ≤ n) (h1 : n ≤ 4096) : IntKind.i64.wrap n = n := by
  simp only [IntKind.wrap, IntKind.bits, IntKind.signed]
  simp
  omega

theorem ev_and (ν : Nat → Int) (i k : Nat) (hk : k ≤ 4096) : (SE.bin .and .i64 (.tok i) (.lit k)).ev ν = some (msk (ν i) k : Int) := by
  have h : msk (ν i) k ≤ k := by
    unfold msk
    rw [BitVec.toNat_and]
    refine Nat.le_trans Nat.and_le_right ?_
    rw [BitVec.toNat_ofNat]
    exact Nat.mod_le _ _
  have e : BitVec.ofInt 64 (k : Int) = BitVec.ofNat 64 k := by simp
  show some (IntKind.i64.wrap ((BitVec.ofInt 64 (ν i) &&& BitVec.ofInt 64 (k : Int)).toNat : Int)) = _
  rw [e]
  exact congrArg some (wrap_small (by omega) (by unfold msk at h; omega))

theorem msk_again (m : Int) : msk (msk m 3071 : Int) 3071 = msk m 3071 := by
  unfold msk
  have e : BitVec.ofInt 64 (((BitVec.ofInt 64 m &&& BitVec.ofNat 64 3071).toNat : Nat) : Int) = (BitVec.ofInt 64 m &&& BitVec.ofNat 64 3071) := by
    rw [BitVec.ofInt_natCast, BitVec.ofNat_toNat]; simp
  rw [e, BitVec.and_assoc, BitVec.and_self]

/-- What hangs on nine bits alone. -/
def okEqs (x : Nat) : Bool :=
  decide (em.ev (nu 0 x 0 0) = some (x : Int)) &&
  ([((SE.bin .and .i64 (.bin .shr .i64 em (.lit 6)) (.lit 7), dg 1) : SE × SE), (.bin .and .i64 (.bin .shr .i64 em (.lit 3)) (.lit 7), dg 2), (.bin .and .i64 em (.lit 7), dg 3), ch 1, ch 2, ch 3].all fun p => decide (p.1.ev (nu 0 x 0 0) = p.2.ev (nu 0 x 0 0)))

theorem all_ok : ((List.range 512).all okEqs) = true := by decide +kernel

theorem nu_eq {m x was y : Int} : ∀ i, i = 1 ∨ i = 2 ∨ i = 3 → nu m x was y i = nu 0 x 0 0 i := by
  rintro i (rfl | rfl | rfl) <;> rfl

theorem eqs8 (m was : Int) : EqOk st8.eq (nu m (msk m 511) was (msk was 3071)) := by
  have h0 := List.all_eq_true.1 all_ok (msk m 511) (List.mem_range.2 (msk_lt m))
  simp only [okEqs, Bool.and_eq_true, decide_eq_true_eq] at h0
  obtain ⟨h1, h2⟩ := h0
  rw [List.all_eq_true] at h2
  have tr : ∀ e : SE, (∀ i ∈ e.toks, i = 1 ∨ i = 2 ∨ i = 3) → e.ev (nu m (msk m 511) was (msk was 3071)) = e.ev (nu 0 (msk m 511) 0 0) := fun e he => SE.ev_toks e fun i hi => nu_eq i (he i hi)
  have all3 : ∀ e : SE, (e.toks.all fun i => decide (i = 1 ∨ i = 2 ∨ i = 3)) = true → ∀ i ∈ e.toks, i = 1 ∨ i = 2 ∨ i = 3 := fun e h i hi => of_decide_eq_true (List.all_eq_true.1 h i hi)
  intro p hp
  simp only [st8, List.mem_cons, List.not_mem_nil, or_false] at hp
  have mid : ∀ p : SE × SE, p ∈ [((SE.bin .and .i64 (.bin .shr .i64 em (.lit 6)) (.lit 7), dg 1) : SE × SE), (.bin .and .i64 (.bin .shr .i64 em (.lit 3)) (.lit 7), dg 2), (.bin .and .i64 em (.lit 7), dg 3), ch 1, ch 2, ch 3] → (p.1.toks.all fun i => decide (i = 1 ∨ i = 2 ∨ i = 3)) = true → (p.2.toks.all fun i => decide (i = 1 ∨ i = 2 ∨ i = 3)) = true → p.1.ev (nu m (msk m 511) was (msk was 3071)) = p.2.ev (nu m (msk m 511) was (msk was 3071)) := fun p hp a b => by
    rw [tr _ (all3 _ a), tr _ (all3 _ b)]
    exact of_decide_eq_true (h2 p hp)
  rcases hp with rfl | rfl | rfl | rfl | rfl | rfl | rfl | rfl | rfl
  · have e1 := ev_and (nu m (msk m 511) was (msk was 3071)) 0 511 (by decide)
    rw [tr em (all3 _ (by decide)), h1]
    exact e1
  · exact mid _ (by simp) (by decide) (by decide)
  · exact mid _ (by simp) (by decide) (by decide)
  · exact mid _ (by simp) (by decide) (by decide)
  · exact mid _ (by simp) (by decide) (by decide)
  · exact mid _ (by simp) (by decide) (by decide)
  · exact mid _ (by simp) (by decide) (by decide)
  · exact ev_and (nu m (msk m 511) was (msk was 3071)) 4 3071 (by decide)
  · refine (ev_and (nu m (msk m 511) was (msk was 3071)) 5 3071 (by decide)).trans ?_
    show some ((msk ((msk was 3071 : Nat) : Int) 3071 : Nat) : Int) = some ((msk was 3071 : Nat) : Int)
    rw [msk_again]

theorem sat8 {m was : Int} (h1 : -9223372036854775808 ≤ m) (h2 : m ≤ 9223372036854775807) (h3 : -9223372036854775808 ≤ was) (h4 : was ≤ 9223372036854775807) : Sat st8.th (nu m (msk m 511) was (msk was 3071)) := by
  intro i lo hi h
  have hx := msk_lt m
  have hy := msk_le was
  match i with
  | 0 => cases h; exact ⟨h1, h2⟩
  | 1 => cases h; simp only [nu]; omega
  | 2 => cases h; simp only [nu]; omega
  | 3 => cases h; simp only [nu]; omega
  | 4 => cases h; exact ⟨h3, h4⟩
  | 5 => cases h; simp only [nu]; omega
  | i + 6 => cases h

end Go.Proofs.YtoihipolfdhhnaaGreatDoor.Vm
