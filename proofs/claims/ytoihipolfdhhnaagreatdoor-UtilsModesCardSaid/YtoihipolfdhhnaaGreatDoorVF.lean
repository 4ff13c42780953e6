/-
  Vm, sixth part: tests of symbolic numbers; the operations on numbers; texts.
-/
import Derived.Test.YtoihipolfdhhnaaGreatDoorVE
namespace Go.Proofs.YtoihipolfdhhnaaGreatDoor.Vm

/- HOW TESTS ARE DECIDED -/

theorem wrap_int {k : IntKind} {n : Int} (h1 : k.min ≤ n) (h2 : n ≤ k.max) : k.wrap n = n := by
  cases k <;> simp only [IntKind.min, IntKind.max, IntKind.bits, IntKind.signed] at h1 h2 <;> simp only [IntKind.wrap, IntKind.bits, IntKind.signed] <;> simp at h1 h2 ⊢ <;> omega

/-- Between which bounds a symbolic number lies. -/
def SE.iv (θ : List (Int × Int)) : SE → Option (Int × Int)
  | .tok i => θ[i]?
  | .lit n => some (n, n)
  | .cv k a => match a.iv θ with
    | some (l, h) => if k.min ≤ l ∧ h ≤ k.max then some (l, h) else none
    | none => none
  | .bin .add k a b => match a.iv θ, b.iv θ with
    | some (l1, h1), some (l2, h2) => if k.min ≤ l1 + l2 ∧ h1 + h2 ≤ k.max then some (l1 + l2, h1 + h2) else none
    | _, _ => none
  | .bin .sub k a b => match a.iv θ, b.iv θ with
    | some (l1, h1), some (l2, h2) => if k.min ≤ l1 - h2 ∧ h1 - l2 ≤ k.max then some (l1 - h2, h1 - l2) else none
    | _, _ => none
  | .bin _ _ _ _ => none

theorem SE.iv_ok {θ : List (Int × Int)} {ν : Nat → Int} (hs : Sat θ ν) : ∀ {e : SE} {l h x : Int}, e.iv θ = some (l, h) → e.ev ν = some x → l ≤ x ∧ x ≤ h
  | .tok i, l, h, x, h1, h2 => by
    simp only [SE.ev, Option.some.injEq] at h2
    subst h2
    exact hs i l h h1
  | .lit n, l, h, x, h1, h2 => by
    simp only [SE.ev, SE.iv, Option.some.injEq, Prod.mk.injEq] at h1 h2
    omega
  | .cv k a, l, h, x, h1, h2 => by
    simp only [SE.iv] at h1
    simp only [SE.ev, Option.map_eq_some_iff] at h2
    obtain ⟨y, h3, h4⟩ := h2
    split at h1
    · rename_i l' h' ha
      split at h1
      · rename_i hc
        cases h1
        have := SE.iv_ok hs ha h3
        rw [wrap_int (by omega) (by omega)] at h4
        omega
      · cases h1
    · cases h1
  | .bin op k a b, l, h, x, h1, h2 => by
    simp only [SE.ev] at h2
    split at h2
    · rename_i y z hy hz
      cases op <;> simp only [SE.iv] at h1 <;> first | (cases h1; done) | skip
      · split at h1
        · rename_i l1 h1' l2 h2' ha hb
          split at h1
          · cases h1
            have := SE.iv_ok hs ha hy
            have := SE.iv_ok hs hb hz
            simp only [arI, Option.some.injEq] at h2
            rw [wrap_int (by omega) (by omega)] at h2
            omega
          · cases h1
        · cases h1
      · split at h1
        · rename_i l1 h1' l2 h2' ha hb
          split at h1
          · cases h1
            have := SE.iv_ok hs ha hy
            have := SE.iv_ok hs hb hz
            simp only [arI, Option.some.injEq] at h2
            rw [wrap_int (by omega) (by omega)] at h2
            omega
          · cases h1
        · cases h1
    · cases h2

/-- A test of two that lie within bounds. -/
def decIv (op : BinOp) (l1 h1 l2 h2 : Int) : Option Bool :=
  match op with
  | .lss => if h1 < l2 then some true else if h2 ≤ l1 then some false else none
  | .leq => if h1 ≤ l2 then some true else if h2 < l1 then some false else none
  | .gtr => if h2 < l1 then some true else if h1 ≤ l2 then some false else none
  | .geq => if h2 ≤ l1 then some true else if h1 < l2 then some false else none
  | .eql => if h1 < l2 ∨ h2 < l1 then some false else if l1 = h1 ∧ l2 = h2 then some true else none
  | .neq => if h1 < l2 ∨ h2 < l1 then some true else if l1 = h1 ∧ l2 = h2 then some false else none
  | _ => none

theorem decIv_ok {op : BinOp} {l1 h1 l2 h2 x y : Int} {b : Bool} (h : decIv op l1 h1 l2 h2 = some b) (hx : l1 ≤ x ∧ x ≤ h1) (hy : l2 ≤ y ∧ y ≤ h2) : cmpI op x y = some b := by
  cases op <;> simp only [decIv] at h <;> first | (cases h; done) | skip
  all_goals
    simp only [cmpI, Option.some.injEq]
    split at h
    · cases h
      first | (simp; omega) | (simp only [beq_eq_false_iff_ne, bne_iff_ne, ne_eq]; omega)
    · split at h
      · cases h
        first | (simp; omega) | (simp only [beq_iff_eq, bne_eq_false_iff_eq]; omega)
      · cases h

def SE.toks : SE → List Nat
  | .tok i => [i]
  | .lit _ => []
  | .bin _ _ a b => a.toks ++ b.toks
  | .cv _ a => a.toks

theorem SE.ev_toks {ν ν' : Nat → Int} : ∀ (e : SE), (∀ i ∈ e.toks, ν i = ν' i) → e.ev ν = e.ev ν'
  | .tok i, h => by simp only [SE.ev, h i (by simp [SE.toks])]
  | .lit n, _ => rfl
  | .cv k a, h => by simp only [SE.ev, SE.ev_toks a h]
  | .bin op k a b, h => by
    simp only [SE.ev, SE.ev_toks a (fun i hi => h i (by simp [SE.toks, hi])), SE.ev_toks b (fun i hi => h i (by simp [SE.toks, hi]))]

def upd (ν : Nat → Int) (i : Nat) (v : Int) : Nat → Int := fun j => if Nat.beq j i then v else ν j

/-- All values from lo on, n of them, answer alike. -/
def alike {β : Type} [DecidableEq β] (f : Int → Option β) (lo : Int) : Nat → Option β
  | 0 => f lo
  | n + 1 => match f (lo + (n + 1 : Nat)), alike f lo n with
    | some a, some b => if a = b then some a else none
    | _, _ => none

theorem alike_ok {β : Type} [DecidableEq β] {f : Int → Option β} {lo : Int} {t : β} : ∀ {n : Nat}, alike f lo n = some t → ∀ v : Int, lo ≤ v → v ≤ lo + n → f v = some t
  | 0, h, v, h1, h2 => by
    have : v = lo := by simp at h2; omega
    subst this; exact h
  | n + 1, h, v, h1, h2 => by
    simp only [alike] at h
    split at h
    · rename_i a b ha hb
      split at h
      · rename_i e
        cases h
        subst e
        by_cases e : v = lo + ((n + 1 : Nat) : Int)
        · rw [e]; exact ha
        · exact alike_ok hb v h1 (by omega)
      · cases h
    · cases h

def enum {β : Type} [DecidableEq β] (θ : List (Int × Int)) (f : (Nat → Int) → Option β) : List Nat → (Nat → Int) → Option β
  | [], ν => f ν
  | i :: is, ν => match θ[i]? with
    | some (lo, hi) => if hi - lo ≤ 600 then alike (fun v => enum θ f is (upd ν i v)) lo (hi - lo).toNat else none
    | none => none

theorem enum_ok {β : Type} [DecidableEq β] {θ : List (Int × Int)} {f : (Nat → Int) → Option β} {ν' : Nat → Int} (hs : Sat θ ν') {t : β} : ∀ {is : List Nat} {ν : Nat → Int} {done : List Nat}, enum θ f is ν = some t → (∀ i ∈ done, ν i = ν' i) →
    ∃ ν1, f ν1 = some t ∧ (∀ i ∈ is, ν1 i = ν' i) ∧ ∀ i ∈ done, ν1 i = ν' i
  | [], ν, done, h, hd => ⟨ν, h, fun _ hi => (by cases hi), hd⟩
  | i :: is, ν, done, h, hd => by
    simp only [enum] at h
    split at h
    · rename_i lo hi hθ
      split at h
      · obtain ⟨h1, h2⟩ := hs i lo hi hθ
        have h3 := alike_ok h (ν' i) h1 (by omega)
        obtain ⟨ν1, h4, h5, h6⟩ := enum_ok hs (is := is) (ν := upd ν i (ν' i)) (done := i :: done) h3 (fun j hj => by
          simp only [upd]
          split
          · rename_i e; rw [Nat.eq_of_beq_eq_true e]
          · rename_i e
            rcases List.mem_cons.1 hj with rfl | hj
            · exact absurd (by simp) e
            · exact hd j hj)
        exact ⟨ν1, h4, fun j hj => by
          rcases List.mem_cons.1 hj with rfl | hj
          · exact h6 j (by simp)
          · exact h5 j hj, fun j hj => h6 j (by simp [hj])⟩
      · cases h
    · cases h

def dedup : List Nat → List Nat
  | [] => []
  | i :: l => if (dedup l).contains i then dedup l else i :: dedup l

theorem mem_dedup {i : Nat} : ∀ {l : List Nat}, i ∈ l → i ∈ dedup l
  | j :: l, h => by
    simp only [dedup]
    split
    · rename_i hc
      rcases List.mem_cons.1 h with rfl | h
      · simpa using hc
      · exact mem_dedup h
    · rcases List.mem_cons.1 h with rfl | h
      · exact List.mem_cons_self ..
      · exact List.mem_cons_of_mem _ (mem_dedup h)

/-- A test of symbolic numbers. -/
def dec (θ : List (Int × Int)) (op : BinOp) (e1 e2 : SE) : Option Bool :=
  let slow := if e1 = e2 then cmpI op 0 0 else enum θ (fun ν => match e1.ev ν, e2.ev ν with
    | some x, some y => cmpI op x y
    | _, _ => none) (dedup (e1.toks ++ e2.toks)) (fun _ => 0)
  match e1.iv θ, e2.iv θ with
  | some (l1, h1), some (l2, h2) => match decIv op l1 h1 l2 h2 with
    | some b => some b
    | none => slow
  | _, _ => slow

theorem cmpI_refl (op : BinOp) (x : Int) : cmpI op x x = cmpI op 0 0 := by
  cases op <;> simp [cmpI]

theorem dec_ok {θ : List (Int × Int)} {op : BinOp} {e1 e2 : SE} {b : Bool} (h : dec θ op e1 e2 = some b) {ν : Nat → Int} (hs : Sat θ ν) {x y : Int} (hx : e1.ev ν = some x) (hy : e2.ev ν = some y) : cmpI op x y = some b := by
  have slow : (if e1 = e2 then cmpI op 0 0 else enum θ (fun ν => match e1.ev ν, e2.ev ν with
    | some x, some y => cmpI op x y
    | _, _ => none) (dedup (e1.toks ++ e2.toks)) (fun _ => 0)) = some b → cmpI op x y = some b := by
    intro hq
    split at hq
    · rename_i e
      subst e
      rw [hx] at hy
      cases hy
      rw [cmpI_refl]
      exact hq
    · obtain ⟨ν1, h1, h2, _⟩ := enum_ok hs (done := []) hq (fun _ hi => (by cases hi))
      rw [SE.ev_toks e1 (fun i hi => h2 i (mem_dedup (by simp [hi]))), SE.ev_toks e2 (fun i hi => h2 i (mem_dedup (by simp [hi]))), hx, hy] at h1
      exact h1
  unfold dec at h
  simp only at h
  split at h
  · rename_i l1 h1 l2 h2 i1 i2
    split at h
    · rename_i b' hb
      cases h
      exact decIv_ok hb (SE.iv_ok hs i1 hx) (SE.iv_ok hs i2 hy)
    · exact slow h
  · exact slow h

/-- A symbolic number that has one value alone. -/
def cst (θ : List (Int × Int)) (e : SE) : Option Int := enum θ (fun ν => e.ev ν) (dedup e.toks) (fun _ => 0)

theorem cst_ok {θ : List (Int × Int)} {e : SE} {z : Int} (h : cst θ e = some z) {ν : Nat → Int} (hs : Sat θ ν) : e.ev ν = some z := by
  obtain ⟨ν1, h1, h2, _⟩ := enum_ok hs (done := []) h (fun _ hi => (by cases hi))
  rw [SE.ev_toks e fun i hi => h2 i (mem_dedup hi)] at h1
  exact h1

/- OPERATIONS ON NUMBERS -/

/-- May it be kept as it is? -/
def symOk (op : BinOp) (b : SE) : Bool :=
  match op, b with
  | .add, _ => true
  | .sub, _ => true
  | .mul, _ => true
  | .and, _ => true
  | .or, _ => true
  | .xor, _ => true
  | .andNot, _ => true
  | .quo, .lit n => decide (n ≠ 0)
  | .rem, .lit n => decide (n ≠ 0)
  | .shl, .lit n => decide (0 ≤ n)
  | .shr, .lit n => decide (0 ≤ n)
  | _, _ => false

theorem symOk_ev {op : BinOp} {k : IntKind} {a b : SE} {ν : Nat → Int} {x y : Int} (h : symOk op b = true) (hx : a.ev ν = some x) (hy : b.ev ν = some y) : ∃ z, arI op k x y = some z ∧ (SE.bin op k a b).ev ν = some z := by
  have key : ∀ z, arI op k x y = some z → ∃ z, arI op k x y = some z ∧ (SE.bin op k a b).ev ν = some z := fun z hz => ⟨z, hz, by simp only [SE.ev, hx, hy, hz]⟩
  cases op <;> first
    | exact key _ rfl
    | (simp only [symOk] at h; cases h; done)
    | (cases b <;> first
        | (simp [symOk] at h; done)
        | (simp only [symOk, decide_eq_true_eq] at h
           simp only [SE.ev, Option.some.injEq] at hy
           subst hy
           simp only [arI] at key ⊢
           rw [if_neg (by omega)] at key ⊢
           exact key _ rfl))

noncomputable def C.num (c : C) (f : IntKind → SE → R) : R := c.onNum (fun k n => f k (.lit (toI n))) (fun k e => f k e)

/-- A number by its other name. -/
def normE (eq : List (SE × SE)) (e : SE) : SE :=
  match eq.find? fun p => decide (p.1 = e) with
  | some p => p.2
  | none => e

theorem normE_ev {eq : List (SE × SE)} {ν : Nat → Int} (h : EqOk eq ν) (e : SE) : (normE eq e).ev ν = e.ev ν := by
  unfold normE
  split
  · rename_i p hp
    have h1 := List.mem_of_find?_eq_some hp
    have h2 : p.1 = e := by simpa using List.find?_some hp
    rw [← h2, ← h p h1]
  · rfl

noncomputable def sym (eq : List (SE × SE)) (op : BinOp) (k : IntKind) (a b : SE) (kk : C → R) : R := onB (symOk op b) (kk (.sy k (normE eq (.bin op k a b)))) none

/-- Arithmetic; the second one may be of another kind, for shifts. -/
noncomputable def oAr (eq : List (SE × SE)) (op : BinOp) (k : IntKind) (sh : Bool) (ax ay : Acc) : Opc :=
  ⟨fun st vs m kk => ax.g st vs fun u => ay.g st vs fun v => u.onNum
    (fun k1 a => onB (isK k k1) (v.onNum
      (fun k2 b => onB (onB sh true (isK k k2)) ((fiOf op k).f a b fun s => kk (.int k s) m) none)
      (fun k2 e => onB (onB sh true (isK k k2)) (sym eq op k (.lit (toI a)) e fun c => kk c m) none)) none)
    (fun k1 e1 => onB (isK k k1) (v.onNum
      (fun k2 b => onB (onB sh true (isK k k2)) (sym eq op k e1 (.lit (toI b)) fun c => kk c m) none)
      (fun k2 e => onB (onB sh true (isK k k2)) (sym eq op k e1 e fun c => kk c m) none)) none)⟩

theorem run_arI {P : Program} {w : World} {k k' : IntKind} {op : BinOp} {t : TypeId} {x y : Operand} {a b z : Int} (h : arI op k a b = some z) (hk : op = .shl ∨ op = .shr ∨ k' = k) :
    ((do eqGuard op t x y (.int k a) (.int k' b); binOp op t (.int k a) (.int k' b)) : Sem Value).run P w = .ok (.int k z) w := by
  have hg : (eqGuard op t x y (.int k a) (.int k' b)).run P w = .ok () w := by cases op <;> simp [eqGuard]
  have hb : (binOp op t (.int k a) (.int k' b)).run P w = .ok (.int k z) w := by
    cases op <;> simp only [arI, reduceCtorEq] at h <;> simp only [reduceCtorEq, false_or, or_false, or_true, true_or, or_self] at hk <;> first
      | (subst hk; simp only [Option.some.injEq] at h; subst h; simp [binOp, Op.intArith, Op.intBits]; done)
      | (subst hk; split at h
         · cases h
         · rename_i hy; cases h; simp [binOp, Op.intDiv, hy])
      | (split at h
         · cases h
         · rename_i hy; cases h; simp [binOp, Op.shift, hy])
  simp only [Sem.run_bind, hg, Result.andThen_ok, hb]

section
variable {P : Program} {sf : SF} {g : List Nat} {o : Oper}

theorem sym_inv {op : BinOp} {k : IntKind} {a b : SE} {kk : C → R} {r : C × Mem} {eq : List (SE × SE)} (h : sym eq op k a b kk = some r) : symOk op b = true ∧ kk (.sy k (normE eq (.bin op k a b))) = some r := onB_inv h

theorem onB_sh {sh b : Bool} (h : onB sh true b = true) : sh = true ∨ b = true := by
  cases sh
  · exact .inr h
  · exact .inl rfl

theorem oAr_ok {op : BinOp} {t : TypeId} {x y : Operand} {ty : TypeId} {k : IntKind} {sh : Bool} {ax ay : Acc} (ho : o.op = .binOp op t x y ty) (hsh : sh = true → op = .shl ∨ op = .shr) (hx : AccOk sf g x ax) (hy : AccOk sf g y ay) : FreeOk P sf g o (oAr sf.eq op k sh ax ay) :=
  fun st vs m kk r h => by
    obtain ⟨u, h1, h2⟩ := hx _ _ _ _ h
    obtain ⟨v, h3, h4⟩ := hy _ _ _ _ h1
    have hkk : ∀ k2, onB sh true (isK k k2) = true → op = .shl ∨ op = .shr ∨ k2 = k := fun k2 hk => by
      rcases onB_sh hk with h | h
      · rcases hsh h with h | h
        · exact .inl h
        · exact .inr (.inl h)
      · exact .inr (.inr (isK_eq h))
    have fin : ∀ (c : C) (k2 : IntKind) (s1 s2 : SE), kk c m = some r → onB sh true (isK k k2) = true →
        (∀ ε, C.real ε u = (s1.ev ε.ν).map (.int k ·)) → (∀ ε, C.real ε v = (s2.ev ε.ν).map (.int k2 ·)) →
        (∀ ν x y, s1.ev ν = some x → s2.ev ν = some y → ∃ z, arI op k x y = some z ∧ ∀ ε : Ev, ε.ν = ν → EqOk sf.eq ε.ν → C.real ε c = some (.int k z)) →
        ∃ c, kk c m = some r ∧ ∀ ε a w, SRel sf ε g st vs a → ∃ v, C.real ε c = some v ∧ (execOp a.eval o).run P w = .ok (.value v) w := by
      intro c k2 s1 s2 hc hk e1 e2 e3
      refine ⟨c, hc, fun ε a w hs => ?_⟩
      have r1 := h2 ε a hs
      have r2 := h4 ε a hs
      rw [e1, Option.map_eq_some_iff] at r1
      rw [e2, Option.map_eq_some_iff] at r2
      obtain ⟨p, p1, p2⟩ := r1
      obtain ⟨q, q1, q2⟩ := r2
      obtain ⟨z, z1, z2⟩ := e3 ε.ν p q p1 q1
      refine ⟨_, z2 ε rfl hs.eqs, ?_⟩
      have := run_arI (P := P) (w := w) (t := t) (x := x) (y := y) z1 (hkk k2 hk)
      rw [p2, q2] at this
      simp only [execOp, ho, Sem.run_bind] at this ⊢
      rw [this]
      rfl
    rcases C.onNum_inv h3 with ⟨k1, n1, rfl, h5⟩ | ⟨k1, e1, rfl, h5⟩
    · obtain ⟨h6, h7⟩ := onB_inv h5
      have := isK_eq h6
      subst this
      rcases C.onNum_inv h7 with ⟨k2, n2, rfl, h8⟩ | ⟨k2, e2, rfl, h8⟩
      · obtain ⟨h9, h10⟩ := onB_inv h8
        obtain ⟨s, h11, h12⟩ := fiOf_ok op k1 _ _ _ _ h10
        exact fin _ k2 (.lit (toI n1)) (.lit (toI n2)) h11 h9 (fun ε => rfl) (fun ε => rfl) (fun ν x y ex ey => by
          simp only [SE.ev, Option.some.injEq] at ex ey
          subst ex; subst ey
          exact ⟨_, h12, fun ε _ _ => rfl⟩)
      · obtain ⟨h9, h10⟩ := onB_inv h8
        obtain ⟨h11, h12⟩ := sym_inv h10
        exact fin _ k2 (.lit (toI n1)) e2 h12 h9 (fun ε => rfl) (fun ε => rfl) (fun ν x y ex ey => by
          obtain ⟨z, z1, z2⟩ := symOk_ev (k := k1) h11 ex ey
          exact ⟨z, z1, fun ε e he => by simp only [C.real, normE_ev he]; simp [e, z2]⟩)
    · obtain ⟨h6, h7⟩ := onB_inv h5
      have := isK_eq h6
      subst this
      rcases C.onNum_inv h7 with ⟨k2, n2, rfl, h8⟩ | ⟨k2, e2, rfl, h8⟩
      · obtain ⟨h9, h10⟩ := onB_inv h8
        obtain ⟨h11, h12⟩ := sym_inv h10
        exact fin _ k2 e1 (.lit (toI n2)) h12 h9 (fun ε => rfl) (fun ε => rfl) (fun ν x y ex ey => by
          obtain ⟨z, z1, z2⟩ := symOk_ev (k := k1) h11 ex ey
          exact ⟨z, z1, fun ε e he => by simp only [C.real, normE_ev he]; simp [e, z2]⟩)
      · obtain ⟨h9, h10⟩ := onB_inv h8
        obtain ⟨h11, h12⟩ := sym_inv h10
        exact fin _ k2 e1 e2 h12 h9 (fun ε => rfl) (fun ε => rfl) (fun ν x y ex ey => by
          obtain ⟨z, z1, z2⟩ := symOk_ev (k := k1) h11 ex ey
          exact ⟨z, z1, fun ε e he => by simp only [C.real, normE_ev he]; simp [e, z2]⟩)

structure FC where
  f : Nat → Nat → Bool

noncomputable def fcOf : BinOp → FC
  | .eql => ⟨fun a b => Nat.beq a b⟩
  | .neq => ⟨fun a b => onB (Nat.beq a b) false true⟩
  | .lss => ⟨fun a b => Nat.blt a b⟩
  | .leq => ⟨fun a b => Nat.ble a b⟩
  | .gtr => ⟨fun a b => Nat.blt b a⟩
  | .geq => ⟨fun a b => Nat.ble b a⟩
  | _ => ⟨fun _ _ => false⟩

def isCmp : BinOp → Bool
  | .eql => true
  | .neq => true
  | .lss => true
  | .leq => true
  | .gtr => true
  | .geq => true
  | _ => false

theorem fcOf_ok {op : BinOp} (h : isCmp op = true) (a b : Nat) : cmpI op (toI a) (toI b) = some ((fcOf op).f a b) := by
  have hlt : ∀ a b : Nat, decide (toI a < toI b) = Nat.blt a b := fun a b => by
    rw [Bool.eq_iff_iff, Nat.blt_eq]
    exact ⟨fun h => by have := of_decide_eq_true h; simp only [toI] at this; omega, fun h => decide_eq_true (by simp only [toI]; omega)⟩
  have hle : ∀ a b : Nat, decide (toI a ≤ toI b) = Nat.ble a b := fun a b => by
    rw [Bool.eq_iff_iff, Nat.ble_eq]
    exact ⟨fun h => by have := of_decide_eq_true h; simp only [toI] at this; omega, fun h => decide_eq_true (by simp only [toI]; omega)⟩
  have heq : (toI a == toI b) = Nat.beq a b := by
    rw [Bool.eq_iff_iff]
    simp only [beq_iff_eq, toI, Nat.beq_eq]; omega
  cases op <;> simp only [isCmp, Bool.false_eq_true] at h <;> simp only [cmpI, fcOf, Option.some.injEq]
  · exact heq
  · rw [bne, heq]; cases Nat.beq a b <;> rfl
  · exact hlt a b
  · exact hle a b
  · exact hlt b a
  · exact hle b a

/-- A test of numbers. -/
noncomputable def oCmp (θ : List (Int × Int)) (op : BinOp) (k : IntKind) (ax ay : Acc) : Opc :=
  ⟨fun st vs m kk => ax.g st vs fun u => ay.g st vs fun v => u.onNum
    (fun k1 a => onB (isK k k1) (v.onNum
      (fun k2 b => onB (isK k k2) (kk (.bool ((fcOf op).f a b)) m) none)
      (fun k2 e => onB (isK k k2) (onO (dec θ op (.lit (toI a)) e) fun t => kk (.bool t) m) none)) none)
    (fun k1 e1 => onB (isK k k1) (v.onNum
      (fun k2 b => onB (isK k k2) (onO (dec θ op e1 (.lit (toI b))) fun t => kk (.bool t) m) none)
      (fun k2 e => onB (isK k k2) (onO (dec θ op e1 e) fun t => kk (.bool t) m) none)) none)⟩

theorem run_cmpI {P : Program} {w : World} {k : IntKind} {op : BinOp} {t : TypeId} {x y : Operand} {a b : Int} {z : Bool} (h : cmpI op a b = some z) :
    ((do eqGuard op t x y (.int k a) (.int k b); binOp op t (.int k a) (.int k b)) : Sem Value).run P w = .ok (.bool z) w := by
  have hg : (eqGuard op t x y (.int k a) (.int k b)).run P w = .ok () w := by cases op <;> simp [eqGuard]
  have hb : (binOp op t (.int k a) (.int k b)).run P w = .ok (.bool z) w := by
    cases op <;> simp only [cmpI, Option.some.injEq, reduceCtorEq] at h <;> subst h <;> simp [binOp, Op.intCmp]
  simp only [Sem.run_bind, hg, Result.andThen_ok, hb]

theorem oCmp_ok {op : BinOp} {t : TypeId} {x y : Operand} {ty : TypeId} {k : IntKind} {ax ay : Acc} (ho : o.op = .binOp op t x y ty) (hc : isCmp op = true) (hx : AccOk sf g x ax) (hy : AccOk sf g y ay) : FreeOk P sf g o (oCmp sf.th op k ax ay) :=
  fun st vs m kk r h => by
    obtain ⟨u, h1, h2⟩ := hx _ _ _ _ h
    obtain ⟨v, h3, h4⟩ := hy _ _ _ _ h1
    have fin : ∀ (z : Bool) (s1 s2 : SE), kk (.bool z) m = some r →
        (∀ ε, C.real ε u = (s1.ev ε.ν).map (.int k ·)) → (∀ ε, C.real ε v = (s2.ev ε.ν).map (.int k ·)) →
        (∀ ν x y, Sat sf.th ν → s1.ev ν = some x → s2.ev ν = some y → cmpI op x y = some z) →
        ∃ c, kk c m = some r ∧ ∀ ε a w, SRel sf ε g st vs a → ∃ v, C.real ε c = some v ∧ (execOp a.eval o).run P w = .ok (.value v) w := by
      intro z s1 s2 hz e1 e2 e3
      refine ⟨_, hz, fun ε a w hs => ⟨.bool z, rfl, ?_⟩⟩
      have r1 := h2 ε a hs
      have r2 := h4 ε a hs
      rw [e1, Option.map_eq_some_iff] at r1
      rw [e2, Option.map_eq_some_iff] at r2
      obtain ⟨p, p1, p2⟩ := r1
      obtain ⟨q, q1, q2⟩ := r2
      have := run_cmpI (P := P) (w := w) (k := k) (t := t) (x := x) (y := y) (e3 ε.ν p q hs.th p1 q1)
      rw [p2, q2] at this
      simp only [execOp, ho, Sem.run_bind] at this ⊢
      rw [this]
      rfl
    rcases C.onNum_inv h3 with ⟨k1, n1, rfl, h5⟩ | ⟨k1, e1, rfl, h5⟩ <;> obtain ⟨h6, h7⟩ := onB_inv h5 <;> have := isK_eq h6 <;> subst this <;>
      rcases C.onNum_inv h7 with ⟨k2, n2, rfl, h8⟩ | ⟨k2, e2, rfl, h8⟩ <;> obtain ⟨h9, h10⟩ := onB_inv h8 <;> have := isK_eq h9 <;> subst this
    · exact fin _ (.lit (toI n1)) (.lit (toI n2)) h10 (fun ε => rfl) (fun ε => rfl) (fun ν x y _ ex ey => by
        simp only [SE.ev, Option.some.injEq] at ex ey
        subst ex; subst ey
        exact fcOf_ok hc _ _)
    · obtain ⟨z, h11, h12⟩ := onO_inv h10
      exact fin z (.lit (toI n1)) e2 h12 (fun ε => rfl) (fun ε => rfl) (fun ν x y hs ex ey => dec_ok h11 hs ex ey)
    · obtain ⟨z, h11, h12⟩ := onO_inv h10
      exact fin z e1 (.lit (toI n2)) h12 (fun ε => rfl) (fun ε => rfl) (fun ν x y hs ex ey => dec_ok h11 hs ex ey)
    · obtain ⟨z, h11, h12⟩ := onO_inv h10
      exact fin z e1 e2 h12 (fun ε => rfl) (fun ε => rfl) (fun ν x y hs ex ey => dec_ok h11 hs ex ey)

end

end Go.Proofs.YtoihipolfdhhnaaGreatDoor.Vm
