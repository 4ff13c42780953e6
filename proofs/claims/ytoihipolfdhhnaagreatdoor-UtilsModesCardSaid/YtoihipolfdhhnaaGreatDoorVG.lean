/-
  Vm, seventh part: texts.
-/
import Derived.Test.YtoihipolfdhhnaaGreatDoorVF
import Derived.Laws.Strings
namespace Go.Proofs.YtoihipolfdhhnaaGreatDoor.Vm

/- TEXTS AS NUMBERS -/

section
variable (ν : Nat → Int)

theorem bytesOf_length : ∀ n d, (bytesOf ν n d).length = n
  | 0, _ => rfl
  | n + 1, d => by simp [bytesOf, bytesOf_length n]

theorem bytesOf_get : ∀ (n d i : Nat), i < n → (bytesOf ν n d)[i]? = some (byteOf ν (d / 65536 ^ i % 65536))
  | 0, d, i, h => by omega
  | n + 1, d, 0, _ => by simp [bytesOf]
  | n + 1, d, i + 1, h => by
    simp only [bytesOf, List.getElem?_cons_succ]
    rw [bytesOf_get n (d / 65536) i (by omega), Nat.div_div_eq_div_mul, Nat.pow_succ, Nat.mul_comm (65536 ^ i)]

theorem bytesOf_take : ∀ (k n d : Nat), k ≤ n → (bytesOf ν n d).take k = bytesOf ν k d
  | 0, n, d, _ => by simp [bytesOf]
  | k + 1, 0, d, h => by omega
  | k + 1, n + 1, d, h => by simp only [bytesOf, List.take_succ_cons, bytesOf_take k n _ (by omega)]

theorem bytesOf_drop : ∀ (k n d : Nat), k ≤ n → (bytesOf ν n d).drop k = bytesOf ν (n - k) (d / 65536 ^ k)
  | 0, n, d, _ => by simp
  | k + 1, 0, d, h => by omega
  | k + 1, n + 1, d, h => by
    simp only [bytesOf, List.drop_succ_cons]
    rw [bytesOf_drop k n _ (by omega), Nat.div_div_eq_div_mul, Nat.pow_succ, Nat.mul_comm (65536 ^ k), show n + 1 - (k + 1) = n - k from by omega]

theorem bytesOf_app : ∀ (n1 n2 d1 d2 : Nat), bytesOf ν (n1 + n2) (d1 % 65536 ^ n1 + 65536 ^ n1 * d2) = bytesOf ν n1 d1 ++ bytesOf ν n2 d2
  | 0, n2, d1, d2 => by simp [bytesOf, Nat.mod_one]
  | n1 + 1, n2, d1, d2 => by
    rw [show n1 + 1 + n2 = (n1 + n2) + 1 from by omega]
    simp only [bytesOf, List.cons_append]
    have e1 : (d1 % 65536 ^ (n1 + 1) + 65536 ^ (n1 + 1) * d2) % 65536 = d1 % 65536 := by
      rw [Nat.pow_succ, Nat.mul_comm (65536 ^ n1) 65536, Nat.mul_assoc, Nat.add_mul_mod_self_left, Nat.mod_mul_right_mod]
    have e2 : (d1 % 65536 ^ (n1 + 1) + 65536 ^ (n1 + 1) * d2) / 65536 = d1 / 65536 % 65536 ^ n1 + 65536 ^ n1 * d2 := by
      rw [Nat.pow_succ, Nat.mul_comm (65536 ^ n1) 65536, Nat.mul_assoc, Nat.add_mul_div_left _ _ (by decide), Nat.mod_mul_right_div_self]
    rw [e1, e2, bytesOf_app n1 n2]

theorem bytesOf_mod (n d : Nat) : bytesOf ν n (d % 65536 ^ n) = bytesOf ν n d := by
  have := bytesOf_app ν n 0 d 0
  simpa [bytesOf] using this

end

/-- All digits are bytes. -/
noncomputable def plainD (n x : Nat) : Bool := Nat.beq (Nat.land x (Nat.mul (Nat.div (Nat.sub (Nat.pow 65536 n) 1) 65535) 65280)) 0

theorem mask_succ (n : Nat) : (65536 ^ (n + 1) - 1) / 65535 = 1 + 65536 * ((65536 ^ n - 1) / 65535) := by
  have hd : ∀ n, 65536 ^ n - 1 = 65535 * ((65536 ^ n - 1) / 65535) := fun n => by
    induction n with
    | zero => rfl
    | succ n ih =>
      have hp : 0 < 65536 ^ n := Nat.pow_pos (by decide)
      have : 65536 ^ (n + 1) - 1 = 65535 * (1 + 65536 * ((65536 ^ n - 1) / 65535)) := by rw [Nat.pow_succ]; omega
      rw [this, Nat.mul_div_cancel_left _ (by decide)]
  have hp : 0 < 65536 ^ n := Nat.pow_pos (by decide)
  have := hd n
  have h2 : 65536 ^ (n + 1) - 1 = 65535 * (1 + 65536 * ((65536 ^ n - 1) / 65535)) := by rw [Nat.pow_succ]; omega
  rw [h2, Nat.mul_div_cancel_left _ (by decide)]

theorem plainD_ok : ∀ (n x : Nat), plainD n x = true → ∀ i, i < n → x / 65536 ^ i % 65536 < 256
  | 0, x, _, i, hi => by omega
  | n + 1, x, h, i, hi => by
    have h0 : x &&& ((65536 ^ (n + 1) - 1) / 65535 * 65280) = 0 := Nat.eq_of_beq_eq_true h
    rw [mask_succ, show (1 + 65536 * ((65536 ^ n - 1) / 65535)) * 65280 = 65280 + 65536 * ((65536 ^ n - 1) / 65535 * 65280) from by omega] at h0
    generalize hq : (65536 ^ n - 1) / 65535 * 65280 = q at h0
    have hm : x % 65536 &&& 65280 = 0 := by
      have := congrArg (· % 2 ^ 16) h0
      simp only [Nat.and_mod_two_pow] at this
      rw [show (65280 + 65536 * q) % 2 ^ 16 = 65280 from by omega] at this
      simpa using this
    have hd : x / 65536 &&& q = 0 := by
      have := congrArg (· / 2 ^ 16) h0
      simp only [Nat.and_div_two_pow] at this
      rw [show (65280 + 65536 * q) / 2 ^ 16 = q from by omega] at this
      simpa using this
    cases i with
    | zero =>
      have h3 := congrArg (· / 2 ^ 8) hm
      simp only [Nat.and_div_two_pow] at h3
      rw [show 65280 / 2 ^ 8 = 2 ^ 8 - 1 from by decide, Nat.and_two_pow_sub_one_eq_mod] at h3
      simp at h3 ⊢
      omega
    | succ i =>
      have := plainD_ok n (x / 65536) (by subst hq; show Nat.beq (x / 65536 &&& ((65536 ^ n - 1) / 65535 * 65280)) 0 = true; rw [Nat.beq_eq]; exact hd) i (by omega)
      rwa [Nat.div_div_eq_div_mul, Nat.mul_comm 65536, ← Nat.pow_succ] at this

theorem ble_le {a b : Nat} (h : Nat.ble a b = true) : a ≤ b := Nat.le_of_ble_eq_true h
theorem blt_lt {a b : Nat} (h : Nat.blt a b = true) : a < b := by rwa [Nat.blt_eq] at h

/- ARE TWO TEXTS THE SAME? -/

def dig (a : Nat) : SE := if a < 256 then .lit a else .tok (a - 256)

/-- A digit's number lies in a byte. -/
def digOk (θ : List (Int × Int)) (a : Nat) : Bool := if a < 256 then true else match θ[a - 256]? with
  | some (lo, hi) => decide (0 ≤ lo) && decide (hi ≤ 255)
  | none => false

theorem dig_ok {θ : List (Int × Int)} {a : Nat} (h : digOk θ a = true) {ν : Nat → Int} (hs : Sat θ ν) : ∃ x : Int, (dig a).ev ν = some x ∧ 0 ≤ x ∧ x ≤ 255 ∧ byteOf ν a = UInt8.ofNat x.toNat := by
  unfold digOk at h
  unfold dig byteOf
  split at h
  · rename_i ha
    rw [if_pos ha, if_pos ha]
    exact ⟨a, rfl, by omega, by omega, by simp⟩
  · rename_i ha
    rw [if_neg ha, if_neg ha]
    split at h
    · rename_i lo hi hθ
      simp only [Bool.and_eq_true, decide_eq_true_eq] at h
      have := hs _ lo hi hθ
      exact ⟨ν (a - 256), rfl, by omega, by omega, rfl⟩
    · cases h

def byteCmp (θ : List (Int × Int)) (a b : Nat) : Option Bool :=
  if Nat.beq a b then some true else if digOk θ a && digOk θ b then dec θ .eql (dig a) (dig b) else none

theorem byteCmp_ok {θ : List (Int × Int)} {a b : Nat} {t : Bool} (h : byteCmp θ a b = some t) {ν : Nat → Int} (hs : Sat θ ν) : decide (byteOf ν a = byteOf ν b) = t := by
  unfold byteCmp at h
  split at h
  · rename_i e
    cases h
    rw [Nat.eq_of_beq_eq_true e]; simp
  · split at h
    · rename_i hc
      simp only [Bool.and_eq_true] at hc
      obtain ⟨x, h1, h2, h3, h4⟩ := dig_ok hc.1 hs
      obtain ⟨y, h5, h6, h7, h8⟩ := dig_ok hc.2 hs
      have := dec_ok h hs h1 h5
      simp only [cmpI, Option.some.injEq] at this
      rw [← this, h4, h8]
      obtain ⟨n, rfl⟩ := Int.eq_ofNat_of_zero_le h2
      obtain ⟨k, rfl⟩ := Int.eq_ofNat_of_zero_le h6
      simp only [Int.toNat_natCast]
      rw [Bool.eq_iff_iff]
      simp only [decide_eq_true_eq, beq_iff_eq, Int.natCast_inj]
      constructor
      · intro e
        have := congrArg UInt8.toNat e
        simp at this
        omega
      · intro e; rw [e]
    · cases h

def cmpD (θ : List (Int × Int)) : Nat → Nat → Nat → Option Bool
  | 0, _, _ => some true
  | n + 1, x, y => match byteCmp θ (x % 65536) (y % 65536) with
    | some false => some false
    | some true => cmpD θ n (x / 65536) (y / 65536)
    | none => match cmpD θ n (x / 65536) (y / 65536) with
      | some false => some false
      | _ => none

theorem cmpD_ok {θ : List (Int × Int)} {ν : Nat → Int} (hs : Sat θ ν) : ∀ {n x y : Nat} {t : Bool}, cmpD θ n x y = some t → decide (bytesOf ν n x = bytesOf ν n y) = t
  | 0, x, y, t, h => by simp only [cmpD, Option.some.injEq] at h; subst h; simp [bytesOf]
  | n + 1, x, y, t, h => by
    simp only [cmpD] at h
    simp only [bytesOf, List.cons.injEq]
    split at h
    · rename_i hb
      cases h
      have := byteCmp_ok hb hs
      simp only [decide_eq_false_iff_not] at this ⊢
      exact fun e => this e.1
    · rename_i hb
      have h1 := byteCmp_ok hb hs
      have h2 := cmpD_ok hs h
      simp only [decide_eq_true_eq] at h1
      simp [h1, h2]
    · split at h
      · rename_i hb
        cases h
        have := cmpD_ok hs hb
        simp only [decide_eq_false_iff_not] at this ⊢
        exact fun e => this e.2
      · cases h

/-- Are they the same? -/
noncomputable def strEq (θ : List (Int × Int)) (n1 d1 n2 d2 : Nat) (kk : Bool → R) : R :=
  onB (Nat.beq n1 n2)
    (onB (Nat.beq (Nat.mod d1 (Nat.pow 65536 n1)) (Nat.mod d2 (Nat.pow 65536 n1))) (kk true)
      (onB (onB (plainD n1 d1) (plainD n1 d2) false) (kk false) (onO (cmpD θ n1 d1 d2) kk)))
    (kk false)

theorem textOf_toList (ν : Nat → Int) (n d : Nat) : (textOf ν n d).toList = bytesOf ν n d := by
  simp [textOf]

theorem textOf_size (ν : Nat → Int) (n d : Nat) : (textOf ν n d).size = n := by
  show (bytesOf ν n d).toArray.size = n
  simp [bytesOf_length]

theorem byteOf_plain {ν : Nat → Int} {a : Nat} (h : a < 256) : (byteOf ν a).toNat = a := by
  simp [byteOf, h]

theorem strEq_inv {θ : List (Int × Int)} {n1 d1 n2 d2 : Nat} {kk : Bool → R} {r : C × Mem} (h : strEq θ n1 d1 n2 d2 kk = some r) : ∃ t, kk t = some r ∧ ∀ ν, Sat θ ν → ((textOf ν n1 d1).toList == (textOf ν n2 d2).toList) = t := by
  unfold strEq at h
  simp only [textOf_toList]
  cases h1 : Nat.beq n1 n2 with
  | false =>
    rw [h1] at h
    refine ⟨false, h, fun ν _ => ?_⟩
    have : n1 ≠ n2 := fun e => by rw [e] at h1; simp at h1
    rw [beq_eq_false_iff_ne]
    intro e
    have := congrArg List.length e
    rw [bytesOf_length, bytesOf_length] at this
    contradiction
  | true =>
    rw [h1] at h
    have e := Nat.eq_of_beq_eq_true h1
    subst e
    cases h2 : Nat.beq (Nat.mod d1 (Nat.pow 65536 n1)) (Nat.mod d2 (Nat.pow 65536 n1)) with
    | true =>
      have h' : kk true = some r := by rw [h2] at h; exact h
      refine ⟨true, h', fun ν _ => ?_⟩
      have h3 : d1 % 65536 ^ n1 = d2 % 65536 ^ n1 := Nat.eq_of_beq_eq_true h2
      rw [← bytesOf_mod ν n1 d1, ← bytesOf_mod ν n1 d2, h3]; simp
    | false =>
      have h' : onB (onB (plainD n1 d1) (plainD n1 d2) false) (kk false) (onO (cmpD θ n1 d1 d2) kk) = some r := by rw [h2] at h; exact h
      have h3 : d1 % 65536 ^ n1 ≠ d2 % 65536 ^ n1 := fun e => by
        have : Nat.beq (d1 % 65536 ^ n1) (d2 % 65536 ^ n1) = false := h2
        rw [e] at this; simp at this
      cases h4 : onB (plainD n1 d1) (plainD n1 d2) false with
      | false =>
        rw [h4] at h'
        obtain ⟨t, h5, h6⟩ := onO_inv (show onO (cmpD θ n1 d1 d2) kk = some r from h')
        refine ⟨t, h6, fun ν hs => ?_⟩
        have := cmpD_ok hs h5
        rw [← this]
        rw [Bool.eq_iff_iff]; simp
      | true =>
        rw [h4] at h'
        refine ⟨false, h', fun ν _ => ?_⟩
        have p1 : plainD n1 d1 = true := by
          cases hp : plainD n1 d1 with
          | true => rfl
          | false => rw [hp] at h4; cases h4
        have p2 : plainD n1 d2 = true := by rw [p1] at h4; exact h4
        rw [beq_eq_false_iff_ne]
        intro e
        have key : ∀ (n x y : Nat), (∀ i, i < n → x / 65536 ^ i % 65536 < 256) → (∀ i, i < n → y / 65536 ^ i % 65536 < 256) → bytesOf ν n x = bytesOf ν n y → x % 65536 ^ n = y % 65536 ^ n := by
          intro n
          induction n with
          | zero => intro x y _ _ _; simp [Nat.mod_one]
          | succ n ih =>
            intro x y hx hy e
            simp only [bytesOf, List.cons.injEq] at e
            have hx0 := hx 0 (by omega)
            have hy0 := hy 0 (by omega)
            simp only [Nat.pow_zero, Nat.div_one] at hx0 hy0
            have e0 := congrArg UInt8.toNat e.1
            rw [byteOf_plain hx0, byteOf_plain hy0] at e0
            have e1 := ih (x / 65536) (y / 65536) (fun i hi => by
              have := hx (i + 1) (by omega)
              rwa [Nat.pow_succ, Nat.mul_comm, ← Nat.div_div_eq_div_mul] at this) (fun i hi => by
              have := hy (i + 1) (by omega)
              rwa [Nat.pow_succ, Nat.mul_comm, ← Nat.div_div_eq_div_mul] at this) e.2
            rw [Nat.pow_succ, Nat.mul_comm, Nat.mod_mul, Nat.mod_mul, e0, e1]
        exact h3 (key n1 d1 d2 (plainD_ok n1 d1 p1) (plainD_ok n1 d2 p2) e)

section
variable {P : Program} {sf : SF} {g : List Nat} {o : Oper}

theorem real_str {ε : Ev} {n d : Nat} {v : Value} (h : C.real ε (.str n d) = some v) : v = .string (textOf ε.ν n d) := by
  simp only [C.real, Option.some.injEq] at h
  exact h.symm

noncomputable def oStrEq (θ : List (Int × Int)) (neg : Bool) (ax ay : Acc) : Opc :=
  ⟨fun st vs m k => ax.g st vs fun u => ay.g st vs fun v => u.onStr fun n1 d1 => v.onStr fun n2 d2 => strEq θ n1 d1 n2 d2 fun t => k (.bool (onB neg (onB t false true) t)) m⟩

theorem onB_neg (neg t : Bool) : onB neg (onB t false true) t = (neg ^^ t) := by cases neg <;> cases t <;> rfl

theorem eqGuard_str {P : Program} {w : World} (op : BinOp) (t : TypeId) (x y : Operand) (a b : ByteArray) : (eqGuard op t x y (.string a) (.string b)).run P w = .ok () w := by cases op <;> simp [eqGuard]

theorem oStrEq_ok {op : BinOp} {t : TypeId} {x y : Operand} {ty : TypeId} {neg : Bool} {ax ay : Acc} (ho : o.op = .binOp op t x y ty) (hop : (op = .eql ∧ neg = false) ∨ (op = .neq ∧ neg = true)) (hx : AccOk sf g x ax) (hy : AccOk sf g y ay) : FreeOk P sf g o (oStrEq sf.th neg ax ay) :=
  fun st vs m kk r h => by
    obtain ⟨u, h1, h2⟩ := hx _ _ _ _ h
    obtain ⟨v, h3, h4⟩ := hy _ _ _ _ h1
    obtain ⟨n1, d1, rfl, h5⟩ := C.onStr_inv h3
    obtain ⟨n2, d2, rfl, h6⟩ := C.onStr_inv h5
    obtain ⟨z, h7, h8⟩ := strEq_inv h6
    refine ⟨_, h7, fun ε a w hs => ⟨_, rfl, ?_⟩⟩
    have r1 := real_str (h2 ε a hs)
    have r2 := real_str (h4 ε a hs)
    have h9 := h8 ε.ν hs.th
    simp only [execOp, ho, r1, r2, Sem.run_bind, eqGuard_str, Result.andThen_ok, onB_neg]
    rcases hop with ⟨rfl, rfl⟩ | ⟨rfl, rfl⟩ <;> simp [binOp, Op.stringOp, h9]

noncomputable def oCat (ax ay : Acc) : Opc :=
  ⟨fun st vs m k => ax.g st vs fun u => ay.g st vs fun v => u.onStr fun n1 d1 => v.onStr fun n2 d2 => onB (Nat.ble (Nat.add n1 n2) 9223372036854775807) (k (.str (Nat.add n1 n2) (Nat.add (Nat.mod d1 (Nat.pow 65536 n1)) (Nat.mul (Nat.pow 65536 n1) d2))) m) none⟩

theorem oCat_ok {t : TypeId} {x y : Operand} {ty : TypeId} {ax ay : Acc} (ho : o.op = .binOp .add t x y ty) (hx : AccOk sf g x ax) (hy : AccOk sf g y ay) : FreeOk P sf g o (oCat ax ay) :=
  fun st vs m kk r h => by
    obtain ⟨u, h1, h2⟩ := hx _ _ _ _ h
    obtain ⟨v, h3, h4⟩ := hy _ _ _ _ h1
    obtain ⟨n1, d1, rfl, h5⟩ := C.onStr_inv h3
    obtain ⟨n2, d2, rfl, h6⟩ := C.onStr_inv h5
    obtain ⟨h7, h8⟩ := onB_inv h6
    refine ⟨_, h8, fun ε a w hs => ⟨_, rfl, ?_⟩⟩
    have r1 := real_str (h2 ε a hs)
    have r2 := real_str (h4 ε a hs)
    have hle : n1 + n2 ≤ 9223372036854775807 := Nat.le_of_ble_eq_true h7
    have e : textOf ε.ν (Nat.add n1 n2) (Nat.add (Nat.mod d1 (Nat.pow 65536 n1)) (Nat.mul (Nat.pow 65536 n1) d2)) = textOf ε.ν n1 d1 ++ textOf ε.ν n2 d2 := by
      simp only [textOf, ByteArray.mk_append_mk]
      congr 2
      exact bytesOf_app ε.ν n1 n2 d1 d2
    have hst := run_string_add_sum (P := P) (w := w) (textOf ε.ν n1 d1) (textOf ε.ν n2 d2) (by rw [textOf_size, textOf_size]; exact hle)
    simp only [execOp, ho, r1, r2, Sem.run_bind, eqGuard_str, Result.andThen_ok, binOp, hst, e, Sem.run_pure]

/-- Texts by their order, where they have no tokens. -/
noncomputable def oStrOrd (op : BinOp) (ax ay : Acc) : Opc :=
  ⟨fun st vs m k => ax.g st vs fun u => ay.g st vs fun v => u.onStr fun n1 d1 => v.onStr fun n2 d2 => onB (plainD n1 d1) (onB (plainD n2 d2)
    (k (.bool (match op with
      | .lss => Op.bytesLess (bytesOf (fun _ => 0) n1 d1) (bytesOf (fun _ => 0) n2 d2)
      | .leq => Op.bytesLess (bytesOf (fun _ => 0) n1 d1) (bytesOf (fun _ => 0) n2 d2) || (bytesOf (fun _ => 0) n1 d1 == bytesOf (fun _ => 0) n2 d2)
      | .gtr => !(Op.bytesLess (bytesOf (fun _ => 0) n1 d1) (bytesOf (fun _ => 0) n2 d2) || (bytesOf (fun _ => 0) n1 d1 == bytesOf (fun _ => 0) n2 d2))
      | _ => !(Op.bytesLess (bytesOf (fun _ => 0) n1 d1) (bytesOf (fun _ => 0) n2 d2)))) m) none) none⟩

theorem bytesOf_plain {ν ν' : Nat → Int} : ∀ {n x : Nat}, (∀ i, i < n → x / 65536 ^ i % 65536 < 256) → bytesOf ν n x = bytesOf ν' n x
  | 0, x, _ => rfl
  | n + 1, x, h => by
    have h0 := h 0 (by omega)
    simp only [Nat.pow_zero, Nat.div_one] at h0
    simp only [bytesOf]
    rw [bytesOf_plain (ν := ν) (ν' := ν') (fun i hi => by
      have := h (i + 1) (by omega)
      rwa [Nat.pow_succ, Nat.mul_comm, ← Nat.div_div_eq_div_mul] at this)]
    simp [byteOf, h0]

theorem oStrOrd_ok {op : BinOp} {t : TypeId} {x y : Operand} {ty : TypeId} {ax ay : Acc} (ho : o.op = .binOp op t x y ty) (hop : op = .lss ∨ op = .leq ∨ op = .gtr ∨ op = .geq) (hx : AccOk sf g x ax) (hy : AccOk sf g y ay) : FreeOk P sf g o (oStrOrd op ax ay) :=
  fun st vs m kk r h => by
    obtain ⟨u, h1, h2⟩ := hx _ _ _ _ h
    obtain ⟨v, h3, h4⟩ := hy _ _ _ _ h1
    obtain ⟨n1, d1, rfl, h5⟩ := C.onStr_inv h3
    obtain ⟨n2, d2, rfl, h6⟩ := C.onStr_inv h5
    obtain ⟨h7, h8⟩ := onB_inv h6
    obtain ⟨h9, h10⟩ := onB_inv h8
    refine ⟨_, h10, fun ε a w hs => ⟨_, rfl, ?_⟩⟩
    have r1 := real_str (h2 ε a hs)
    have r2 := real_str (h4 ε a hs)
    have e1 := bytesOf_plain (ν := fun _ => 0) (ν' := ε.ν) (plainD_ok n1 d1 h7)
    have e2 := bytesOf_plain (ν := fun _ => 0) (ν' := ε.ν) (plainD_ok n2 d2 h9)
    simp only [execOp, ho, r1, r2, Sem.run_bind, eqGuard_str, Result.andThen_ok]
    rcases hop with rfl | rfl | rfl | rfl <;> simp [binOp, Op.stringOp, textOf_toList, e1, e2]

/-- A number, concrete or with one value alone. -/
noncomputable def C.idx (θ : List (Int × Int)) (c : C) (f : IntKind → Nat → R) : R := c.onNum (fun k n => f k n) (fun k e => onO (cst θ e) fun z => onB (decide (0 ≤ z + 18446744073709551616)) (f k (ofI z)) none)

/-- An index, or a range of them. -/
noncomputable def C.idxE (θ : List (Int × Int)) (c : C) (f : IntKind → Nat → R) (fe : SE → Int → Int → R) : R :=
  c.onNum (fun k n => f k n) (fun k e => Option.rec (motive := fun _ => R) (onO (e.iv θ) fun p => fe e p.1 p.2) (fun z => onB (decide (0 ≤ z + 18446744073709551616)) (f k (ofI z)) none) (cst θ e))

theorem C.idx_inv {θ : List (Int × Int)} {c : C} {f : IntKind → Nat → R} {r : C × Mem} (h : c.idx θ f = some r) : ∃ k n, f k n = some r ∧ ∀ ε, Sat θ ε.ν → C.real ε c = some (.int k (toI n)) := by
  rcases C.onNum_inv h with ⟨k, n, rfl, h1⟩ | ⟨k, e, rfl, h1⟩
  · exact ⟨k, n, h1, fun ε _ => rfl⟩
  · obtain ⟨z, h2, h3⟩ := onO_inv h1
    obtain ⟨h4, h5⟩ := onB_inv h3
    refine ⟨k, _, h5, fun ε hs => ?_⟩
    rw [toI_ofI (of_decide_eq_true h4)]
    simp [C.real, cst_ok h2 hs]

theorem run_idxS {t : TypeId} {ti : TI} (w : World) (hok : TIok P t ti) (hu : ti.und = .string) {s : ByteArray} {k : IntKind} {q : Nat} {b : UInt8} (hb : s[q]? = some b) :
    (Instr.index t (.string s) (.int k (q : Int))).run P w = .ok (.int .u8 (b.toNat : Int)) w := by
  have h := hok.run_und w
  rw [hu] at h
  simp [Instr.index, asIntOf, h, hb]

theorem C.idxE_inv {θ : List (Int × Int)} {c : C} {f : IntKind → Nat → R} {fe : SE → Int → Int → R} {r : C × Mem} (h : c.idxE θ f fe = some r) :
    (∃ k n, f k n = some r ∧ ∀ ε, Sat θ ε.ν → C.real ε c = some (.int k (toI n))) ∨ (∃ k e lo hi, fe e lo hi = some r ∧ c = .sy k e ∧ ∀ (ν : Nat → Int) z, Sat θ ν → e.ev ν = some z → lo ≤ z ∧ z ≤ hi) := by
  rcases C.onNum_inv h with ⟨k, n, rfl, h1⟩ | ⟨k, e, rfl, h1⟩
  · exact .inl ⟨k, n, h1, fun ε _ => rfl⟩
  · cases hc : cst θ e with
    | none =>
      rw [hc] at h1
      obtain ⟨p, h2, h3⟩ := onO_inv (h1 : (onO (e.iv θ) fun p => fe e p.1 p.2) = some r)
      exact .inr ⟨k, e, p.1, p.2, h3, rfl, fun ν z hs hz => SE.iv_ok hs (l := p.1) (h := p.2) h2 hz⟩
    | some z =>
      rw [hc] at h1
      obtain ⟨k', n, h2, h3⟩ := C.idx_inv (θ := θ) (c := .sy k e) (f := f) (r := r) (by
        show (onO (cst θ e) fun z => onB (decide (0 ≤ z + 18446744073709551616)) (f k (ofI z)) none) = some r
        rw [hc]
        exact h1)
      exact .inl ⟨k', n, h2, h3⟩

/-- A text's byte. -/
noncomputable def oIdxS (θ : List (Int × Int)) (ax ay : Acc) : Opc :=
  ⟨fun st vs m k => ax.g st vs fun u => ay.g st vs fun v => u.onStr fun n d => v.idx θ fun _ i =>
    onB (Nat.ble 18446744073709551616 i) (onB (Nat.blt (Nat.sub i 18446744073709551616) n)
      (onB (Nat.blt (Nat.mod (Nat.div d (Nat.pow 65536 (Nat.sub i 18446744073709551616))) 65536) 256)
        (k (.int .u8 (Nat.add (Nat.mod (Nat.div d (Nat.pow 65536 (Nat.sub i 18446744073709551616))) 65536) 18446744073709551616)) m)
        (onB (digOk θ (Nat.mod (Nat.div d (Nat.pow 65536 (Nat.sub i 18446744073709551616))) 65536)) (k (.sy .u8 (.tok (Nat.sub (Nat.mod (Nat.div d (Nat.pow 65536 (Nat.sub i 18446744073709551616))) 65536) 256))) m) none)) none) none⟩

theorem oIdxS_ok {t : TypeId} {x y : Operand} {ti : TI} {ax ay : Acc} (ho : o.op = .index t x y) (ht : tiOf P t = some ti) (hu : ti.und = .string) (hx : AccOk sf g x ax) (hy : AccOk sf g y ay) : FreeOk P sf g o (oIdxS sf.th ax ay) :=
  fun st vs m kk r h => by
    have hok := tiOf_ok ht
    obtain ⟨u, h1, h2⟩ := hx _ _ _ _ h
    obtain ⟨v, h3, h4⟩ := hy _ _ _ _ h1
    obtain ⟨n, d, rfl, h5⟩ := C.onStr_inv h3
    obtain ⟨ki, i, h6, h7⟩ := C.idx_inv h5
    simp only [nmod, ndiv, npow, nsub] at h6
    obtain ⟨h8, h9⟩ := onB_inv h6
    obtain ⟨h10, h11⟩ := onB_inv h9
    have hi : 18446744073709551616 ≤ i := ble_le h8
    have hlt : i - 18446744073709551616 < n := blt_lt h10
    generalize hdg : d / 65536 ^ (i - 18446744073709551616) % 65536 = dg at h11
    have run : ∀ ε a w, SRel sf ε g st vs a → (execOp a.eval o).run P w = .ok (.value (.int .u8 ((byteOf ε.ν dg).toNat : Int))) w := by
      intro ε a w hs
      have r1 := real_str (h2 ε a hs)
      have r2 := h7 ε hs.th
      rw [h4 ε a hs, Option.some.injEq, toI_nn hi] at r2
      have hget := bytesOf_get ε.ν n d _ hlt
      rw [hdg] at hget
      have hsz := textOf_size ε.ν n d
      have hb : (textOf ε.ν n d)[i - 18446744073709551616]? = some (byteOf ε.ν dg) := by
        generalize i - 18446744073709551616 = q at hlt hget
        show (if h : q < (textOf ε.ν n d).size then some ((textOf ε.ν n d)[q]) else none) = _
        rw [dif_pos (by omega)]
        obtain ⟨q1, q2⟩ := List.getElem?_eq_some_iff.1 hget
        rw [← q2]
        rfl
      generalize i - 18446744073709551616 = q at hb r2
      have e1 := run_idxS (P := P) w hok hu (k := ki) hb
      simp [execOp, ho, r1, r2, e1]
    rcases onB_cases h11 with ⟨h12, h11⟩ | ⟨h12, h11⟩
    · have hd : dg < 256 := blt_lt h12
      refine ⟨_, h11, fun ε a w hs => ⟨_, ?_, run ε a w hs⟩⟩
      rw [byteOf_plain hd]
      simp only [C.real, toI_up]
    · obtain ⟨h13, h14⟩ := onB_inv h11
      have hd : ¬ dg < 256 := fun e => by
        have h16 : Nat.blt dg 256 = true := by rw [Nat.blt_eq]; exact e
        rw [h12] at h16; cases h16
      refine ⟨_, h14, fun ε a w hs => ⟨_, ?_, run ε a w hs⟩⟩
      obtain ⟨z, z1, z2, z3, z4⟩ := dig_ok h13 hs.th
      rw [z4]
      unfold dig at z1
      rw [if_neg hd] at z1
      simp only [C.real, z1, Option.map_some]
      obtain ⟨q, rfl⟩ := Int.eq_ofNat_of_zero_le z2
      simp
      omega

end

end Go.Proofs.YtoihipolfdhhnaaGreatDoor.Vm
