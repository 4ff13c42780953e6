/-
  A machine for whole runs (Vm), first part: its values, texts as numbers, symbolic numbers; what they are in the model.
-/
import Derived.Calls
import Derived.Laws.Sem
import Derived.Laws.World
import Derived.KernelRfl
namespace Go.Proofs.YtoihipolfdhhnaaGreatDoor.Vm

/- SYMBOLIC NUMBERS -/

inductive SE where
  | tok (i : Nat)
  | lit (n : Int)
  | bin (op : BinOp) (k : IntKind) (a b : SE)
  | cv (k : IntKind) (a : SE)
  deriving DecidableEq

def arI (op : BinOp) (k : IntKind) (x y : Int) : Option Int :=
  match op with
  | .add => some (k.wrap (x + y))
  | .sub => some (k.wrap (x - y))
  | .mul => some (k.wrap (x * y))
  | .and => some (k.wrap (BitVec.ofInt k.bits x &&& BitVec.ofInt k.bits y).toNat)
  | .or => some (k.wrap (BitVec.ofInt k.bits x ||| BitVec.ofInt k.bits y).toNat)
  | .andNot => some (k.wrap (BitVec.ofInt k.bits x &&& ~~~BitVec.ofInt k.bits y).toNat)
  | .xor => some (k.wrap (BitVec.ofInt k.bits x ^^^ BitVec.ofInt k.bits y).toNat)
  | .quo => if y = 0 then none else some (k.wrap (x.tdiv y))
  | .rem => if y = 0 then none else some (x.tmod y)
  | .shl => if y < 0 then none else some (k.wrap (x * 2 ^ (min y.toNat k.bits)))
  | .shr => if y < 0 then none else some (x.fdiv (2 ^ (min y.toNat k.bits)))
  | _ => none

def cmpI (op : BinOp) (x y : Int) : Option Bool :=
  match op with
  | .eql => some (x == y)
  | .neq => some (x != y)
  | .lss => some (decide (x < y))
  | .leq => some (decide (x ≤ y))
  | .gtr => some (decide (x > y))
  | .geq => some (decide (x ≥ y))
  | _ => none

/-- Its value, if it has one. -/
def SE.ev (ν : Nat → Int) : SE → Option Int
  | .tok i => some (ν i)
  | .lit n => some n
  | .bin op k a b => match a.ev ν, b.ev ν with
    | some x, some y => arI op k x y
    | _, _ => none
  | .cv k a => (a.ev ν).map k.wrap

/- VALUES -/

inductive C where
  | int (k : IntKind) (n : Nat)
  | str (n d : Nat)
  | bool (b : Bool)
  | p (b o : Nat)
  | nilp
  | fn (f : FuncId) (l : List C)
  | nilf
  | sl (b o n : Nat) (u : Bool) (c : Nat)
  | nils
  | ifc (t : TypeId) (v : C)
  | nili
  | mp (b : Nat)
  | nilm
  | undef
  | a (n : Nat) (l : List C)
  | t (l : List C)
  | sy (k : IntKind) (e : SE)
  | pe (b o s lo n : Nat) (e : SE)

/-- Numbers are kept with 2^64 on top. -/
def toI (n : Nat) : Int := (n : Int) - 18446744073709551616

/-- A digit of a text: below 256 a byte, else a token's number. -/
def byteOf (ν : Nat → Int) (x : Nat) : UInt8 := if x < 256 then UInt8.ofNat x else UInt8.ofNat (ν (x - 256)).toNat

/-- A text: n digits to the base 65536, the first one lowest. -/
def bytesOf (ν : Nat → Int) : Nat → Nat → List UInt8
  | 0, _ => []
  | n + 1, d => byteOf ν (d % 65536) :: bytesOf ν n (d / 65536)

def textOf (ν : Nat → Int) (n d : Nat) : ByteArray := ⟨(bytesOf ν n d).toArray⟩

/-- A place: the block, where the name's cells begin in it, how many there are. -/
structure Pl where
  blk : Nat
  base : Nat
  len : Nat

/-- Where the names' blocks lie; what the tokens are. -/
structure Ev where
  ad : Nat → Option Pl
  ν : Nat → Int

/-- May it stand in a cell? -/
def C.cell : C → Bool
  | .undef => false
  | .a _ _ => false
  | .t _ => false
  | _ => true

/-- How many elements there is room for: c, or as many of c cells each as the place has. -/
def capOf (x : Pl) (o : Nat) (u : Bool) (c : Nat) : Nat := if u then (x.len - o) / c else c

mutual
def C.real (ε : Ev) : C → Option Value
  | .int k n => some (.int k (toI n))
  | .str n d => some (.string (textOf ε.ν n d))
  | .bool b => some (.bool b)
  | .p b o => (ε.ad b).map fun x => .pointer (some ⟨x.blk, x.base + o, none⟩)
  | .nilp => some (.pointer none)
  | .fn f l => (C.reals ε l).map fun vs => .func (.func f) #[] vs.toArray
  | .nilf => some .nilFunc
  | .sl b o n u c => (ε.ad b).bind fun x => if n ≤ capOf x o u c then some (.slice (some ⟨x.blk, x.base + o, none⟩) n (capOf x o u c)) else none
  | .nils => some (.slice none 0 0)
  | .ifc ty v => (C.real ε v).map (.iface ty ·)
  | .nili => some .nilIface
  | .mp b => (ε.ad b).map fun x => .map (some x.blk)
  | .nilm => some (.map none)
  | .undef => some Go.undef
  | .a n l => if n = l.length ∧ l.all C.cell = true then (C.reals ε l).map fun vs => .agg vs.toArray else none
  | .t l => (C.reals ε l).map fun vs => .tuple vs.toArray
  | .sy k e => (e.ev ε.ν).map (.int k ·)
  | .pe b o s lo n e => (ε.ad b).bind fun x => (e.ev ε.ν).bind fun z => if 0 ≤ z ∧ lo ≤ z.toNat ∧ z.toNat < lo + n then some (.pointer (some ⟨x.blk, x.base + (o + z.toNat * s), none⟩)) else none
def C.reals (ε : Ev) : List C → Option (List Value)
  | [] => some []
  | c :: l => match C.real ε c, C.reals ε l with
    | some v, some vs => some (v :: vs)
    | _, _ => none
end

/-- One knows more. -/
structure Ev.le (ε ε' : Ev) : Prop where
  ad : ∀ b x, ε.ad b = some x → ε'.ad b = some x
  ν : ε'.ν = ε.ν

theorem Ev.le.refl (ε : Ev) : ε.le ε := ⟨fun _ _ h => h, rfl⟩
theorem Ev.le.trans {a b c : Ev} (h : a.le b) (k : b.le c) : a.le c := ⟨fun i x hx => k.ad i x (h.ad i x hx), k.ν.trans h.ν⟩

theorem reals_cons {ε : Ev} {c : C} {l : List C} {vs : List Value} (h : C.reals ε (c :: l) = some vs) : ∃ v r, C.real ε c = some v ∧ C.reals ε l = some r ∧ vs = v :: r := by
  unfold C.reals at h
  split at h
  · rename_i v r h1 h2; cases h; exact ⟨v, r, h1, h2, rfl⟩
  · cases h

theorem reals_of {ε : Ev} {c : C} {l : List C} {v : Value} {r : List Value} (h1 : C.real ε c = some v) (h2 : C.reals ε l = some r) : C.reals ε (c :: l) = some (v :: r) := by
  unfold C.reals; rw [h1, h2]

mutual
theorem C.real_le {ε ε' : Ev} (h : ε.le ε') : ∀ {c : C} {v : Value}, C.real ε c = some v → C.real ε' c = some v
  | .int k n, v, e => by simpa [C.real] using e
  | .str n d, v, e => by simpa [C.real, h.ν] using e
  | .bool b, v, e => by simpa [C.real] using e
  | .p b o, v, e => by
    simp only [C.real, Option.map_eq_some_iff] at e ⊢
    obtain ⟨x, h1, h2⟩ := e
    exact ⟨x, h.ad b x h1, h2⟩
  | .nilp, v, e => by simpa [C.real] using e
  | .fn f l, v, e => by
    simp only [C.real, Option.map_eq_some_iff] at e ⊢
    obtain ⟨x, h1, h2⟩ := e
    exact ⟨x, C.reals_le h h1, h2⟩
  | .nilf, v, e => by simpa [C.real] using e
  | .sl b o n u c, v, e => by
    simp only [C.real, Option.bind_eq_some_iff] at e ⊢
    obtain ⟨x, h1, h2⟩ := e
    exact ⟨x, h.ad b x h1, h2⟩
  | .nils, v, e => by simpa [C.real] using e
  | .ifc ty c, v, e => by
    simp only [C.real, Option.map_eq_some_iff] at e ⊢
    obtain ⟨x, h1, h2⟩ := e
    exact ⟨x, C.real_le h h1, h2⟩
  | .nili, v, e => by simpa [C.real] using e
  | .mp b, v, e => by
    simp only [C.real, Option.map_eq_some_iff] at e ⊢
    obtain ⟨x, h1, h2⟩ := e
    exact ⟨x, h.ad b x h1, h2⟩
  | .nilm, v, e => by simpa [C.real] using e
  | .undef, v, e => by simpa [C.real] using e
  | .a n l, v, e => by
    simp only [C.real] at e ⊢
    split at e
    · simp only [Option.map_eq_some_iff] at e
      obtain ⟨x, h1, h2⟩ := e
      rw [if_pos (by assumption), Option.map_eq_some_iff]
      exact ⟨x, C.reals_le h h1, h2⟩
    · cases e
  | .t l, v, e => by
    simp only [C.real, Option.map_eq_some_iff] at e ⊢
    obtain ⟨x, h1, h2⟩ := e
    exact ⟨x, C.reals_le h h1, h2⟩
  | .sy k n, v, e => by simpa [C.real, h.ν] using e
  | .pe b o s lo n x, v, e => by
    simp only [C.real, Option.bind_eq_some_iff, h.ν] at e ⊢
    obtain ⟨y, h1, h2⟩ := e
    exact ⟨y, h.ad b y h1, h2⟩
theorem C.reals_le {ε ε' : Ev} (h : ε.le ε') : ∀ {l : List C} {vs : List Value}, C.reals ε l = some vs → C.reals ε' l = some vs
  | [], vs, e => by simpa [C.reals] using e
  | c :: l, vs, e => by
    obtain ⟨v, r, h1, h2, rfl⟩ := reals_cons e
    exact reals_of (C.real_le h h1) (C.reals_le h h2)
end

theorem reals_length {ε : Ev} : ∀ {l : List C} {vs : List Value}, C.reals ε l = some vs → vs.length = l.length
  | [], vs, h => by simp only [C.reals, Option.some.injEq] at h; subst h; rfl
  | c :: l, vs, h => by obtain ⟨v, r, _, h2, rfl⟩ := reals_cons h; simp [reals_length h2]

theorem reals_get {ε : Ev} : ∀ {l : List C} {vs : List Value}, C.reals ε l = some vs → ∀ (j : Nat) (c : C), l[j]? = some c → ∃ v, vs[j]? = some v ∧ C.real ε c = some v
  | [], vs, h, j, c, hj => by cases hj
  | c0 :: l, vs, h, j, c, hj => by
    obtain ⟨v, r, h1, h2, rfl⟩ := reals_cons h
    cases j with
    | zero => simp only [List.getElem?_cons_zero, Option.some.injEq] at hj; subst hj; exact ⟨v, rfl, h1⟩
    | succ j => exact reals_get h2 j c hj

theorem reals_append {ε : Ev} : ∀ {l l' : List C} {vs vs' : List Value}, C.reals ε l = some vs → C.reals ε l' = some vs' → C.reals ε (l ++ l') = some (vs ++ vs')
  | [], l', vs, vs', h, h' => by simp only [C.reals, Option.some.injEq] at h; subst h; exact h'
  | c :: l, l', vs, vs', h, h' => by
    obtain ⟨v, r, h1, h2, rfl⟩ := reals_cons h
    exact reals_of h1 (reals_append h2 h')

theorem reals_take {ε : Ev} : ∀ (n : Nat) {l : List C} {vs : List Value}, C.reals ε l = some vs → C.reals ε (l.take n) = some (vs.take n)
  | 0, l, vs, h => by simp [C.reals]
  | n + 1, [], vs, h => by simp only [C.reals, Option.some.injEq] at h; subst h; simp [C.reals]
  | n + 1, c :: l, vs, h => by
    obtain ⟨v, r, h1, h2, rfl⟩ := reals_cons h
    exact reals_of h1 (reals_take n h2)

theorem reals_drop {ε : Ev} : ∀ (n : Nat) {l : List C} {vs : List Value}, C.reals ε l = some vs → C.reals ε (l.drop n) = some (vs.drop n)
  | 0, l, vs, h => by simpa using h
  | n + 1, [], vs, h => by simp only [C.reals, Option.some.injEq] at h; subst h; simp [C.reals]
  | n + 1, c :: l, vs, h => by
    obtain ⟨v, r, h1, h2, rfl⟩ := reals_cons h
    simpa using reals_drop n h2

theorem C.real_oneCell {ε : Ev} {c : C} {v : Value} (h : C.real ε c = some v) (hc : c.cell = true) : v.oneCell' = true := by
  cases c <;> simp only [C.real, Option.some.injEq, Option.map_eq_some_iff, Option.bind_eq_some_iff] at h <;> first
    | (subst h; rfl)
    | (obtain ⟨x, _, rfl⟩ := h; rfl)
    | (obtain ⟨x, _, h⟩ := h; split at h <;> cases h; rfl)
    | (obtain ⟨x, _, y, _, h⟩ := h; split at h <;> cases h; rfl)
    | (simp [C.cell] at hc)

theorem cells_of_oneCell {v : Value} (h : v.oneCell' = true) : v.cells = #[v] := by
  cases v <;> first | rfl | (simp [Value.oneCell'] at h)

theorem reals_oneCell {ε : Ev} : ∀ {l : List C} {vs : List Value}, C.reals ε l = some vs → l.all C.cell = true → ∀ v ∈ vs, v.oneCell' = true
  | [], vs, h, _, v, hv => by simp only [C.reals, Option.some.injEq] at h; subst h; cases hv
  | c :: l, vs, h, hc, v, hv => by
    obtain ⟨v0, r, h1, h2, rfl⟩ := reals_cons h
    simp only [List.all_cons, Bool.and_eq_true] at hc
    rcases List.mem_cons.1 hv with rfl | hv
    · exact C.real_oneCell h1 hc.1
    · exact reals_oneCell h2 hc.2 v hv

/-- The cells of a value. -/
def C.cs : C → List C
  | .a _ l => l
  | c => [c]

/-- Is it the value of a variable? -/
def C.val : C → Bool
  | .undef => false
  | .t _ => false
  | _ => true

theorem C.real_cells {ε : Ev} {c : C} {v : Value} (h : C.real ε c = some v) (hc : c.val = true) : ∃ vs, C.reals ε c.cs = some vs ∧ v.cells = vs.toArray ∧ c.cs.all C.cell = true := by
  by_cases ha : ∃ n l, c = .a n l
  · obtain ⟨n, l, rfl⟩ := ha
    simp only [C.real] at h
    split at h
    · rename_i hl
      simp only [Option.map_eq_some_iff] at h
      obtain ⟨vs, h1, rfl⟩ := h
      exact ⟨vs, h1, rfl, hl.2⟩
    · cases h
  · have hcell : c.cell = true := by cases c <;> first | rfl | (simp [C.val] at hc; done) | (exact absurd ⟨_, _, rfl⟩ ha)
    have hcs : c.cs = [c] := by cases c <;> first | rfl | (exact absurd ⟨_, _, rfl⟩ ha)
    refine ⟨[v], by rw [hcs]; exact reals_of h (by simp [C.reals]), cells_of_oneCell (C.real_oneCell h hcell), by rw [hcs]; simp [hcell]⟩

/- CONSTANTS -/

def packed : List UInt8 → Nat
  | [] => 0
  | b :: l => b.toNat + 65536 * packed l

theorem bytesOf_packed (ν : Nat → Int) : ∀ l : List UInt8, bytesOf ν l.length (packed l) = l
  | [] => rfl
  | b :: l => by
    have hb := b.toNat_lt
    simp only [List.length_cons, packed, bytesOf]
    rw [show (b.toNat + 65536 * packed l) % 65536 = b.toNat from by omega, show (b.toNat + 65536 * packed l) / 65536 = packed l from by omega, bytesOf_packed ν l]
    simp [byteOf, show b.toNat < 256 from hb]

/-- A number with 2^64 on top. -/
def ofI (n : Int) : Nat := (n + 18446744073709551616).toNat

mutual
def C.ofV : Value → Option C
  | .int k n => if 0 ≤ n + 18446744073709551616 then some (.int k (ofI n)) else none
  | .string s => some (.str s.data.toList.length (packed s.data.toList))
  | .bool b => some (.bool b)
  | .pointer none => some .nilp
  | .nilFunc => some .nilf
  | .slice none 0 0 => some .nils
  | .nilIface => some .nili
  | .map none => some .nilm
  | .func (.func f) ⟨[]⟩ ⟨[]⟩ => some (.fn f [])
  | .agg ⟨l⟩ => match C.ofVs l with
    | some r => if r.all C.cell = true then some (.a r.length r) else none
    | none => none
  | _ => none
def C.ofVs : List Value → Option (List C)
  | [] => some []
  | v :: l => match C.ofV v, C.ofVs l with
    | some c, some r => some (c :: r)
    | _, _ => none
end

mutual
theorem C.ofV_ok {ε : Ev} : ∀ {v : Value} {c : C}, C.ofV v = some c → C.real ε c = some v
  | .int k n, c, h => by
    simp only [C.ofV] at h
    split at h
    · cases h; simp only [C.real, toI, ofI]; congr 2; omega
    · cases h
  | .string s, c, h => by
    simp only [C.ofV, Option.some.injEq] at h
    subst h
    simp only [C.real, textOf, bytesOf_packed]
  | .bool b, c, h => by simp only [C.ofV, Option.some.injEq] at h; subst h; rfl
  | .pointer none, c, h => by simp only [C.ofV, Option.some.injEq] at h; subst h; rfl
  | .nilFunc, c, h => by simp only [C.ofV, Option.some.injEq] at h; subst h; rfl
  | .slice none 0 0, c, h => by simp only [C.ofV, Option.some.injEq] at h; subst h; rfl
  | .nilIface, c, h => by simp only [C.ofV, Option.some.injEq] at h; subst h; rfl
  | .map none, c, h => by simp only [C.ofV, Option.some.injEq] at h; subst h; rfl
  | .func (.func f) ⟨[]⟩ ⟨[]⟩, c, h => by simp only [C.ofV, Option.some.injEq] at h; subst h; simp [C.real, C.reals]
  | .agg ⟨l⟩, c, h => by
    simp only [C.ofV] at h
    split at h
    · rename_i r hr
      split at h
      · rename_i ha
        cases h
        simp [C.real, ha, C.ofVs_ok (ε := ε) hr]
      · cases h
    · cases h
  | .pointer (some _), c, h => by simp [C.ofV] at h
  | .slice (some _) _ _, c, h => by simp [C.ofV] at h
  | .slice none (_ + 1) _, c, h => by simp [C.ofV] at h
  | .slice none 0 (_ + 1), c, h => by simp [C.ofV] at h
  | .map (some _), c, h => by simp [C.ofV] at h
  | .float _ _, c, h => by simp [C.ofV] at h
  | .complex _ _ _, c, h => by simp [C.ofV] at h
  | .chan _, c, h => by simp [C.ofV] at h
  | .iface _ _, c, h => by simp [C.ofV] at h
  | .tuple _, c, h => by simp [C.ofV] at h
  | .func (.method _) _ _, c, h => by simp [C.ofV] at h
  | .func (.methodOf _ _) _ _, c, h => by simp [C.ofV] at h
  | .func (.via _ _ _ _) _ _, c, h => by simp [C.ofV] at h
  | .func (.yield _) _ _, c, h => by simp [C.ofV] at h
  | .func (.func _) ⟨_ :: _⟩ _, c, h => by simp [C.ofV] at h
  | .func (.func _) ⟨[]⟩ ⟨_ :: _⟩, c, h => by simp [C.ofV] at h
theorem C.ofVs_ok {ε : Ev} : ∀ {l : List Value} {r : List C}, C.ofVs l = some r → C.reals ε r = some l
  | [], r, h => by simp only [C.ofVs, Option.some.injEq] at h; subst h; simp [C.reals]
  | v :: l, r, h => by
    unfold C.ofVs at h
    split at h
    · rename_i c r' h1 h2
      cases h
      exact reals_of (C.ofV_ok h1) (C.ofVs_ok h2)
    · cases h
end

end Go.Proofs.YtoihipolfdhhnaaGreatDoor.Vm
