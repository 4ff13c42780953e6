/-
  Vm, third part: taking values apart; a function's slots (a region's own in a row, the others in a tree); operands.
-/
import Derived.Test.YtoihipolfdhhnaaGreatDoorVB
namespace Go.Proofs.YtoihipolfdhhnaaGreatDoor.Vm

/-- What a run comes to. -/
abbrev R := Option (C × Mem)

noncomputable def C.onInt (c : C) (f0 : IntKind → Nat → R) : R :=
  C.rec (motive_1 := fun _ => R) (motive_2 := fun _ => R) (fun x0 x1 => f0 x0 x1) (fun _ _ => none) (fun _ => none) (fun _ _ => none) none (fun _ _ _ => none) none (fun _ _ _ _ _ => none) none (fun _ _ _ => none) none (fun _ => none) none none (fun _ _ _ => none) (fun _ _ => none) (fun _ _ => none) (fun _ _ _ _ _ _ => none) none (fun _ _ _ _ => none) c

theorem C.onInt_inv {c : C} {f0 : IntKind → Nat → R} {r : C × Mem} (h : c.onInt f0 = some r) : (∃ x0 x1, c = .int x0 x1 ∧ f0 x0 x1 = some r) := by
  cases c <;> first | (cases h; done) | exact ⟨_, _, rfl, h⟩

noncomputable def C.onNum (c : C) (f0 : IntKind → Nat → R) (f1 : IntKind → SE → R) : R :=
  C.rec (motive_1 := fun _ => R) (motive_2 := fun _ => R) (fun x0 x1 => f0 x0 x1) (fun _ _ => none) (fun _ => none) (fun _ _ => none) none (fun _ _ _ => none) none (fun _ _ _ _ _ => none) none (fun _ _ _ => none) none (fun _ => none) none none (fun _ _ _ => none) (fun _ _ => none) (fun x0 x1 => f1 x0 x1) (fun _ _ _ _ _ _ => none) none (fun _ _ _ _ => none) c

theorem C.onNum_inv {c : C} {f0 : IntKind → Nat → R} {f1 : IntKind → SE → R} {r : C × Mem} (h : c.onNum f0 f1 = some r) : (∃ x0 x1, c = .int x0 x1 ∧ f0 x0 x1 = some r) ∨ (∃ x0 x1, c = .sy x0 x1 ∧ f1 x0 x1 = some r) := by
  cases c <;> first | (cases h; done) | exact (.inl ⟨_, _, rfl, h⟩) | exact (.inr (⟨_, _, rfl, h⟩))

noncomputable def C.onStr (c : C) (f0 : Nat → Nat → R) : R :=
  C.rec (motive_1 := fun _ => R) (motive_2 := fun _ => R) (fun _ _ => none) (fun x0 x1 => f0 x0 x1) (fun _ => none) (fun _ _ => none) none (fun _ _ _ => none) none (fun _ _ _ _ _ => none) none (fun _ _ _ => none) none (fun _ => none) none none (fun _ _ _ => none) (fun _ _ => none) (fun _ _ => none) (fun _ _ _ _ _ _ => none) none (fun _ _ _ _ => none) c

theorem C.onStr_inv {c : C} {f0 : Nat → Nat → R} {r : C × Mem} (h : c.onStr f0 = some r) : (∃ x0 x1, c = .str x0 x1 ∧ f0 x0 x1 = some r) := by
  cases c <;> first | (cases h; done) | exact ⟨_, _, rfl, h⟩

noncomputable def C.onBool (c : C) (f0 : Bool → R) : R :=
  C.rec (motive_1 := fun _ => R) (motive_2 := fun _ => R) (fun _ _ => none) (fun _ _ => none) (fun x0 => f0 x0) (fun _ _ => none) none (fun _ _ _ => none) none (fun _ _ _ _ _ => none) none (fun _ _ _ => none) none (fun _ => none) none none (fun _ _ _ => none) (fun _ _ => none) (fun _ _ => none) (fun _ _ _ _ _ _ => none) none (fun _ _ _ _ => none) c

theorem C.onBool_inv {c : C} {f0 : Bool → R} {r : C × Mem} (h : c.onBool f0 = some r) : (∃ x0, c = .bool x0 ∧ f0 x0 = some r) := by
  cases c <;> first | (cases h; done) | exact ⟨_, rfl, h⟩

noncomputable def C.onPtr (c : C) (f0 : Nat → Nat → R) : R :=
  C.rec (motive_1 := fun _ => R) (motive_2 := fun _ => R) (fun _ _ => none) (fun _ _ => none) (fun _ => none) (fun x0 x1 => f0 x0 x1) none (fun _ _ _ => none) none (fun _ _ _ _ _ => none) none (fun _ _ _ => none) none (fun _ => none) none none (fun _ _ _ => none) (fun _ _ => none) (fun _ _ => none) (fun _ _ _ _ _ _ => none) none (fun _ _ _ _ => none) c

theorem C.onPtr_inv {c : C} {f0 : Nat → Nat → R} {r : C × Mem} (h : c.onPtr f0 = some r) : (∃ x0 x1, c = .p x0 x1 ∧ f0 x0 x1 = some r) := by
  cases c <;> first | (cases h; done) | exact ⟨_, _, rfl, h⟩

noncomputable def C.onFn (c : C) (f0 : FuncId → List C → R) : R :=
  C.rec (motive_1 := fun _ => R) (motive_2 := fun _ => R) (fun _ _ => none) (fun _ _ => none) (fun _ => none) (fun _ _ => none) none (fun x0 x1 _ => f0 x0 x1) none (fun _ _ _ _ _ => none) none (fun _ _ _ => none) none (fun _ => none) none none (fun _ _ _ => none) (fun _ _ => none) (fun _ _ => none) (fun _ _ _ _ _ _ => none) none (fun _ _ _ _ => none) c

theorem C.onFn_inv {c : C} {f0 : FuncId → List C → R} {r : C × Mem} (h : c.onFn f0 = some r) : (∃ x0 x1, c = .fn x0 x1 ∧ f0 x0 x1 = some r) := by
  cases c <;> first | (cases h; done) | exact ⟨_, _, rfl, h⟩

noncomputable def C.onSl (c : C) (f0 : Nat → Nat → Nat → Bool → Nat → R) : R :=
  C.rec (motive_1 := fun _ => R) (motive_2 := fun _ => R) (fun _ _ => none) (fun _ _ => none) (fun _ => none) (fun _ _ => none) none (fun _ _ _ => none) none (fun x0 x1 x2 x3 x4 => f0 x0 x1 x2 x3 x4) none (fun _ _ _ => none) none (fun _ => none) none none (fun _ _ _ => none) (fun _ _ => none) (fun _ _ => none) (fun _ _ _ _ _ _ => none) none (fun _ _ _ _ => none) c

theorem C.onSl_inv {c : C} {f0 : Nat → Nat → Nat → Bool → Nat → R} {r : C × Mem} (h : c.onSl f0 = some r) : (∃ x0 x1 x2 x3 x4, c = .sl x0 x1 x2 x3 x4 ∧ f0 x0 x1 x2 x3 x4 = some r) := by
  cases c <;> first | (cases h; done) | exact ⟨_, _, _, _, _, rfl, h⟩

noncomputable def C.onSls (c : C) (f0 : Nat → Nat → Nat → Bool → Nat → R) (f1 : R) : R :=
  C.rec (motive_1 := fun _ => R) (motive_2 := fun _ => R) (fun _ _ => none) (fun _ _ => none) (fun _ => none) (fun _ _ => none) none (fun _ _ _ => none) none (fun x0 x1 x2 x3 x4 => f0 x0 x1 x2 x3 x4) f1 (fun _ _ _ => none) none (fun _ => none) none none (fun _ _ _ => none) (fun _ _ => none) (fun _ _ => none) (fun _ _ _ _ _ _ => none) none (fun _ _ _ _ => none) c

theorem C.onSls_inv {c : C} {f0 : Nat → Nat → Nat → Bool → Nat → R} {f1 : R} {r : C × Mem} (h : c.onSls f0 f1 = some r) : (∃ x0 x1 x2 x3 x4, c = .sl x0 x1 x2 x3 x4 ∧ f0 x0 x1 x2 x3 x4 = some r) ∨ (c = .nils ∧ f1 = some r) := by
  cases c <;> first | (cases h; done) | exact (.inl ⟨_, _, _, _, _, rfl, h⟩) | exact (.inr (⟨rfl, h⟩))

noncomputable def C.onAgg (c : C) (f0 : Nat → List C → R) : R :=
  C.rec (motive_1 := fun _ => R) (motive_2 := fun _ => R) (fun _ _ => none) (fun _ _ => none) (fun _ => none) (fun _ _ => none) none (fun _ _ _ => none) none (fun _ _ _ _ _ => none) none (fun _ _ _ => none) none (fun _ => none) none none (fun x0 x1 _ => f0 x0 x1) (fun _ _ => none) (fun _ _ => none) (fun _ _ _ _ _ _ => none) none (fun _ _ _ _ => none) c

theorem C.onAgg_inv {c : C} {f0 : Nat → List C → R} {r : C × Mem} (h : c.onAgg f0 = some r) : (∃ x0 x1, c = .a x0 x1 ∧ f0 x0 x1 = some r) := by
  cases c <;> first | (cases h; done) | exact ⟨_, _, rfl, h⟩

noncomputable def C.onTup (c : C) (f0 : List C → R) : R :=
  C.rec (motive_1 := fun _ => R) (motive_2 := fun _ => R) (fun _ _ => none) (fun _ _ => none) (fun _ => none) (fun _ _ => none) none (fun _ _ _ => none) none (fun _ _ _ _ _ => none) none (fun _ _ _ => none) none (fun _ => none) none none (fun _ _ _ => none) (fun x0 _ => f0 x0) (fun _ _ => none) (fun _ _ _ _ _ _ => none) none (fun _ _ _ _ => none) c

theorem C.onTup_inv {c : C} {f0 : List C → R} {r : C × Mem} (h : c.onTup f0 = some r) : (∃ x0, c = .t x0 ∧ f0 x0 = some r) := by
  cases c <;> first | (cases h; done) | exact ⟨_, rfl, h⟩

noncomputable def C.onIfc (c : C) (f0 : TypeId → C → R) : R :=
  C.rec (motive_1 := fun _ => R) (motive_2 := fun _ => R) (fun _ _ => none) (fun _ _ => none) (fun _ => none) (fun _ _ => none) none (fun _ _ _ => none) none (fun _ _ _ _ _ => none) none (fun x0 x1 _ => f0 x0 x1) none (fun _ => none) none none (fun _ _ _ => none) (fun _ _ => none) (fun _ _ => none) (fun _ _ _ _ _ _ => none) none (fun _ _ _ _ => none) c

theorem C.onIfc_inv {c : C} {f0 : TypeId → C → R} {r : C × Mem} (h : c.onIfc f0 = some r) : (∃ x0 x1, c = .ifc x0 x1 ∧ f0 x0 x1 = some r) := by
  cases c <;> first | (cases h; done) | exact ⟨_, _, rfl, h⟩

noncomputable def C.onIf (c : C) (f0 : TypeId → C → R) (f1 : R) : R :=
  C.rec (motive_1 := fun _ => R) (motive_2 := fun _ => R) (fun _ _ => none) (fun _ _ => none) (fun _ => none) (fun _ _ => none) none (fun _ _ _ => none) none (fun _ _ _ _ _ => none) none (fun x0 x1 _ => f0 x0 x1) f1 (fun _ => none) none none (fun _ _ _ => none) (fun _ _ => none) (fun _ _ => none) (fun _ _ _ _ _ _ => none) none (fun _ _ _ _ => none) c

theorem C.onIf_inv {c : C} {f0 : TypeId → C → R} {f1 : R} {r : C × Mem} (h : c.onIf f0 f1 = some r) : (∃ x0 x1, c = .ifc x0 x1 ∧ f0 x0 x1 = some r) ∨ (c = .nili ∧ f1 = some r) := by
  cases c <;> first | (cases h; done) | exact (.inl ⟨_, _, rfl, h⟩) | exact (.inr (⟨rfl, h⟩))

noncomputable def C.onMp (c : C) (f0 : Nat → R) : R :=
  C.rec (motive_1 := fun _ => R) (motive_2 := fun _ => R) (fun _ _ => none) (fun _ _ => none) (fun _ => none) (fun _ _ => none) none (fun _ _ _ => none) none (fun _ _ _ _ _ => none) none (fun _ _ _ => none) none (fun x0 => f0 x0) none none (fun _ _ _ => none) (fun _ _ => none) (fun _ _ => none) (fun _ _ _ _ _ _ => none) none (fun _ _ _ _ => none) c

theorem C.onMp_inv {c : C} {f0 : Nat → R} {r : C × Mem} (h : c.onMp f0 = some r) : (∃ x0, c = .mp x0 ∧ f0 x0 = some r) := by
  cases c <;> first | (cases h; done) | exact ⟨_, rfl, h⟩

noncomputable def C.onMps (c : C) (f0 : Nat → R) (f1 : R) : R :=
  C.rec (motive_1 := fun _ => R) (motive_2 := fun _ => R) (fun _ _ => none) (fun _ _ => none) (fun _ => none) (fun _ _ => none) none (fun _ _ _ => none) none (fun _ _ _ _ _ => none) none (fun _ _ _ => none) none (fun x0 => f0 x0) f1 none (fun _ _ _ => none) (fun _ _ => none) (fun _ _ => none) (fun _ _ _ _ _ _ => none) none (fun _ _ _ _ => none) c

theorem C.onMps_inv {c : C} {f0 : Nat → R} {f1 : R} {r : C × Mem} (h : c.onMps f0 f1 = some r) : (∃ x0, c = .mp x0 ∧ f0 x0 = some r) ∨ (c = .nilm ∧ f1 = some r) := by
  cases c <;> first | (cases h; done) | exact (.inl ⟨_, rfl, h⟩) | exact (.inr (⟨rfl, h⟩))

noncomputable def C.onPF (c : C) (f0 : Nat → Nat → R) (f1 : FuncId → List C → R) : R :=
  C.rec (motive_1 := fun _ => R) (motive_2 := fun _ => R) (fun _ _ => none) (fun _ _ => none) (fun _ => none) (fun x0 x1 => f0 x0 x1) none (fun x0 x1 _ => f1 x0 x1) none (fun _ _ _ _ _ => none) none (fun _ _ _ => none) none (fun _ => none) none none (fun _ _ _ => none) (fun _ _ => none) (fun _ _ => none) (fun _ _ _ _ _ _ => none) none (fun _ _ _ _ => none) c

theorem C.onPF_inv {c : C} {f0 : Nat → Nat → R} {f1 : FuncId → List C → R} {r : C × Mem} (h : c.onPF f0 f1 = some r) : (∃ x0 x1, c = .p x0 x1 ∧ f0 x0 x1 = some r) ∨ (∃ x0 x1, c = .fn x0 x1 ∧ f1 x0 x1 = some r) := by
  cases c <;> first | (cases h; done) | exact (.inl ⟨_, _, rfl, h⟩) | exact (.inr (⟨_, _, rfl, h⟩))

noncomputable def C.onP2 (c : C) (f0 : Nat → Nat → R) (f1 : R) : R :=
  C.rec (motive_1 := fun _ => R) (motive_2 := fun _ => R) (fun _ _ => none) (fun _ _ => none) (fun _ => none) (fun x0 x1 => f0 x0 x1) f1 (fun _ _ _ => none) none (fun _ _ _ _ _ => none) none (fun _ _ _ => none) none (fun _ => none) none none (fun _ _ _ => none) (fun _ _ => none) (fun _ _ => none) (fun _ _ _ _ _ _ => none) none (fun _ _ _ _ => none) c

theorem C.onP2_inv {c : C} {f0 : Nat → Nat → R} {f1 : R} {r : C × Mem} (h : c.onP2 f0 f1 = some r) : (∃ x0 x1, c = .p x0 x1 ∧ f0 x0 x1 = some r) ∨ (c = .nilp ∧ f1 = some r) := by
  cases c <;> first | (cases h; done) | exact (.inl ⟨_, _, rfl, h⟩) | exact (.inr (⟨rfl, h⟩))

noncomputable def C.onF2 (c : C) (f0 : FuncId → List C → R) (f1 : R) : R :=
  C.rec (motive_1 := fun _ => R) (motive_2 := fun _ => R) (fun _ _ => none) (fun _ _ => none) (fun _ => none) (fun _ _ => none) none (fun x0 x1 _ => f0 x0 x1) f1 (fun _ _ _ _ _ => none) none (fun _ _ _ => none) none (fun _ => none) none none (fun _ _ _ => none) (fun _ _ => none) (fun _ _ => none) (fun _ _ _ _ _ _ => none) none (fun _ _ _ _ => none) c

theorem C.onF2_inv {c : C} {f0 : FuncId → List C → R} {f1 : R} {r : C × Mem} (h : c.onF2 f0 f1 = some r) : (∃ x0 x1, c = .fn x0 x1 ∧ f0 x0 x1 = some r) ∨ (c = .nilf ∧ f1 = some r) := by
  cases c <;> first | (cases h; done) | exact (.inl ⟨_, _, rfl, h⟩) | exact (.inr (⟨rfl, h⟩))

noncomputable def C.onPtrE (c : C) (f0 : Nat → Nat → R) (f1 : Nat → Nat → Nat → Nat → Nat → SE → R) : R :=
  C.rec (motive_1 := fun _ => R) (motive_2 := fun _ => R) (fun _ _ => none) (fun _ _ => none) (fun _ => none) (fun x0 x1 => f0 x0 x1) none (fun _ _ _ => none) none (fun _ _ _ _ _ => none) none (fun _ _ _ => none) none (fun _ => none) none none (fun _ _ _ => none) (fun _ _ => none) (fun _ _ => none) (fun x0 x1 x2 x3 x4 x5 => f1 x0 x1 x2 x3 x4 x5) none (fun _ _ _ _ => none) c

theorem C.onPtrE_inv {c : C} {f0 : Nat → Nat → R} {f1 : Nat → Nat → Nat → Nat → Nat → SE → R} {r : C × Mem} (h : c.onPtrE f0 f1 = some r) : (∃ x0 x1, c = .p x0 x1 ∧ f0 x0 x1 = some r) ∨ (∃ x0 x1 x2 x3 x4 x5, c = .pe x0 x1 x2 x3 x4 x5 ∧ f1 x0 x1 x2 x3 x4 x5 = some r) := by
  cases c <;> first | (cases h; done) | exact (.inl ⟨_, _, rfl, h⟩) | exact (.inr (⟨_, _, _, _, _, _, rfl, h⟩))

noncomputable def onB {β : Type} (b : Bool) (t f : β) : β := Bool.rec (motive := fun _ => β) f t b

theorem onB_inv {b : Bool} {t : R} {r : C × Mem} (h : onB b t none = some r) : b = true ∧ t = some r := by
  cases b
  · cases h
  · exact ⟨rfl, h⟩

theorem onB_cases {b : Bool} {t f : R} {r : C × Mem} (h : onB b t f = some r) : (b = true ∧ t = some r) ∨ (b = false ∧ f = some r) := by
  cases b
  · exact .inr ⟨rfl, h⟩
  · exact .inl ⟨rfl, h⟩

noncomputable def onO {β : Type} (o : Option β) (f : β → R) : R := Option.rec (motive := fun _ => R) none (fun x => f x) o

theorem onO_inv {β : Type} {o : Option β} {f : β → R} {r : C × Mem} (h : onO o f = some r) : ∃ x, o = some x ∧ f x = some r := by
  cases o
  · cases h
  · exact ⟨_, rfl, h⟩

noncomputable def onBlk (B : Option Blk) (f : TypeId → Nat → List C → Nat → Bool → R) : R :=
  Option.rec (motive := fun _ => R) none (fun B => Blk.rec (motive := fun _ => R) (fun ty n cs fz wr => f ty n cs fz wr) (fun _ => none) (fun _ _ _ => none) none B) B

theorem onBlk_inv {B : Option Blk} {f : TypeId → Nat → List C → Nat → Bool → R} {r : C × Mem} (h : onBlk B f = some r) : ∃ ty n cs fz wr, B = some (.cells ty n cs fz wr) ∧ f ty n cs fz wr = some r := by
  cases B with
  | none => cases h
  | some B => cases B <;> first | (cases h; done) | exact ⟨_, _, _, _, _, rfl, h⟩

noncomputable def onMap (B : Option Blk) (f : List (C × C) → R) : R :=
  Option.rec (motive := fun _ => R) none (fun B => Blk.rec (motive := fun _ => R) (fun _ _ _ _ _ => none) (fun es => f es) (fun _ _ _ => none) none B) B

theorem onMap_inv {B : Option Blk} {f : List (C × C) → R} {r : C × Mem} (h : onMap B f = some r) : ∃ es, B = some (.map es) ∧ f es = some r := by
  cases B with
  | none => cases h
  | some B => cases B <;> first | (cases h; done) | exact ⟨_, rfl, h⟩

noncomputable def onIter (B : Option Blk) (f : Nat → Nat → Nat → R) : R :=
  Option.rec (motive := fun _ => R) none (fun B => Blk.rec (motive := fun _ => R) (fun _ _ _ _ _ => none) (fun _ => none) (fun n d p => f n d p) none B) B

theorem onIter_inv {B : Option Blk} {f : Nat → Nat → Nat → R} {r : C × Mem} (h : onIter B f = some r) : ∃ n d p, B = some (.iter n d p) ∧ f n d p = some r := by
  cases B with
  | none => cases h
  | some B => cases B <;> first | (cases h; done) | exact ⟨_, _, _, rfl, h⟩

/- SLOTS -/

/-- Where a value is taken from. -/
structure Acc where
  g : List C → Tr C → (C → R) → R

noncomputable def accNo : Acc := ⟨fun _ _ _ => none⟩

noncomputable def stk (i : Nat) : Acc :=
  Nat.rec (motive := fun _ => Acc) ⟨fun st _ k => List.rec (motive := fun _ => R) none (fun c _ _ => k c) st⟩ (fun _ ih => ⟨fun st vs k => List.rec (motive := fun _ => R) none (fun _ t _ => ih.g t vs k) st⟩) i

theorem stk_inv : ∀ {i : Nat} {st : List C} {vs : Tr C} {k : C → R} {r : C × Mem}, (stk i).g st vs k = some r → ∃ c, st[i]? = some c ∧ k c = some r
  | 0, [], _, _, _, h => by cases h
  | 0, c :: _, _, _, _, h => ⟨c, rfl, h⟩
  | i + 1, [], _, _, _, h => by cases h
  | i + 1, _ :: t, vs, k, r, h => by
    have h' : (stk i).g t vs k = some r := h
    simpa using stk_inv h'

noncomputable def var (D : Nat) : Nat → Acc :=
  Nat.rec (motive := fun _ => Nat → Acc) (fun _ => ⟨fun _ vs k => Tr.rec (motive := fun _ => R) none (fun a => k a) (fun _ _ _ _ _ _ _ _ => none) vs⟩)
    (fun _ ih i => sel4 (Nat.mod i 4)
      ⟨fun st vs k => Tr.rec (motive := fun _ => R) none (fun _ => none) (fun c0 _ _ _ _ _ _ _ => (ih (Nat.div i 4)).g st c0 k) vs⟩
      ⟨fun st vs k => Tr.rec (motive := fun _ => R) none (fun _ => none) (fun _ c1 _ _ _ _ _ _ => (ih (Nat.div i 4)).g st c1 k) vs⟩
      ⟨fun st vs k => Tr.rec (motive := fun _ => R) none (fun _ => none) (fun _ _ c2 _ _ _ _ _ => (ih (Nat.div i 4)).g st c2 k) vs⟩
      ⟨fun st vs k => Tr.rec (motive := fun _ => R) none (fun _ => none) (fun _ _ _ c3 _ _ _ _ => (ih (Nat.div i 4)).g st c3 k) vs⟩) D

theorem var_succ (D i : Nat) : var (D + 1) i = sel4 (i % 4)
      ⟨fun st vs k => Tr.rec (motive := fun _ => R) none (fun _ => none) (fun c0 _ _ _ _ _ _ _ => (var D (i / 4)).g st c0 k) vs⟩
      ⟨fun st vs k => Tr.rec (motive := fun _ => R) none (fun _ => none) (fun _ c1 _ _ _ _ _ _ => (var D (i / 4)).g st c1 k) vs⟩
      ⟨fun st vs k => Tr.rec (motive := fun _ => R) none (fun _ => none) (fun _ _ c2 _ _ _ _ _ => (var D (i / 4)).g st c2 k) vs⟩
      ⟨fun st vs k => Tr.rec (motive := fun _ => R) none (fun _ => none) (fun _ _ _ c3 _ _ _ _ => (var D (i / 4)).g st c3 k) vs⟩ := rfl

theorem var_inv : ∀ {D i : Nat} {st : List C} {vs : Tr C} {k : C → R} {r : C × Mem}, (var D i).g st vs k = some r → ∃ c, vs.at i = some c ∧ k c = some r
  | 0, i, st, vs, k, r, h => by
    cases vs with
    | nil => cases h
    | leaf a => exact ⟨a, rfl, h⟩
    | node _ _ _ _ => cases h
  | D + 1, i, st, vs, k, r, h => by
    rw [var_succ] at h
    cases vs with
    | nil => rcases mod4 i with e | e | e | e <;> rw [e] at h <;> cases h
    | leaf a => rcases mod4 i with e | e | e | e <;> rw [e] at h <;> cases h
    | node c0 c1 c2 c3 =>
      rw [at_node]
      rcases mod4 i with e | e | e | e <;> rw [e] at h ⊢ <;> exact var_inv (D := D) h

/-- Where a value is laid. -/
structure Wr where
  w : Tr C → C → Tr C

noncomputable def wrv (D : Nat) : Nat → Wr :=
  Nat.rec (motive := fun _ => Nat → Wr) (fun _ => ⟨fun _ c => .leaf c⟩)
    (fun _ ih i => sel4 (Nat.mod i 4)
      ⟨fun t c => Tr.rec (motive := fun _ => Tr C) (.node ((ih (Nat.div i 4)).w .nil c) .nil .nil .nil) (fun _ => .nil) (fun c0 c1 c2 c3 _ _ _ _ => .node ((ih (Nat.div i 4)).w c0 c) c1 c2 c3) t⟩
      ⟨fun t c => Tr.rec (motive := fun _ => Tr C) (.node .nil ((ih (Nat.div i 4)).w .nil c) .nil .nil) (fun _ => .nil) (fun c0 c1 c2 c3 _ _ _ _ => .node c0 ((ih (Nat.div i 4)).w c1 c) c2 c3) t⟩
      ⟨fun t c => Tr.rec (motive := fun _ => Tr C) (.node .nil .nil ((ih (Nat.div i 4)).w .nil c) .nil) (fun _ => .nil) (fun c0 c1 c2 c3 _ _ _ _ => .node c0 c1 ((ih (Nat.div i 4)).w c2 c) c3) t⟩
      ⟨fun t c => Tr.rec (motive := fun _ => Tr C) (.node .nil .nil .nil ((ih (Nat.div i 4)).w .nil c)) (fun _ => .nil) (fun c0 c1 c2 c3 _ _ _ _ => .node c0 c1 c2 ((ih (Nat.div i 4)).w c3 c)) t⟩) D

theorem wrv_succ (D i : Nat) : wrv (D + 1) i = sel4 (i % 4)
      ⟨fun t c => Tr.rec (motive := fun _ => Tr C) (.node ((wrv D (i / 4)).w .nil c) .nil .nil .nil) (fun _ => .nil) (fun c0 c1 c2 c3 _ _ _ _ => .node ((wrv D (i / 4)).w c0 c) c1 c2 c3) t⟩
      ⟨fun t c => Tr.rec (motive := fun _ => Tr C) (.node .nil ((wrv D (i / 4)).w .nil c) .nil .nil) (fun _ => .nil) (fun c0 c1 c2 c3 _ _ _ _ => .node c0 ((wrv D (i / 4)).w c1 c) c2 c3) t⟩
      ⟨fun t c => Tr.rec (motive := fun _ => Tr C) (.node .nil .nil ((wrv D (i / 4)).w .nil c) .nil) (fun _ => .nil) (fun c0 c1 c2 c3 _ _ _ _ => .node c0 c1 ((wrv D (i / 4)).w c2 c) c3) t⟩
      ⟨fun t c => Tr.rec (motive := fun _ => Tr C) (.node .nil .nil .nil ((wrv D (i / 4)).w .nil c)) (fun _ => .nil) (fun c0 c1 c2 c3 _ _ _ _ => .node c0 c1 c2 ((wrv D (i / 4)).w c3 c)) t⟩ := rfl

theorem wrv_eq : ∀ (D i : Nat) (t : Tr C) (c : C), (wrv D i).w t c = t.set D i c
  | 0, i, t, c => rfl
  | D + 1, i, t, c => by
    rw [wrv_succ]
    cases t with
    | nil => rw [set_nil]; rcases mod4 i with e | e | e | e <;> rw [e] <;> simp only [sel4_0, sel4_1, sel4_2, sel4_3, wrv_eq D (i / 4)]
    | leaf a => rcases mod4 i with e | e | e | e <;> rw [e] <;> rfl
    | node c0 c1 c2 c3 => rw [set_node]; rcases mod4 i with e | e | e | e <;> rw [e] <;> simp only [sel4_0, sel4_1, sel4_2, sel4_3, wrv_eq D (i / 4)]

/-- What is known of a function: its slots that live across regions, how deep their tree is, how many slots there are; which of the program's variables have names; between which bounds the tokens lie. -/
structure SF where
  vars : List Nat
  D : Nat
  nt : Nat
  gl : List Nat
  th : List (Int × Int)
  eq : List (SE × SE)

def EqOk (eq : List (SE × SE)) (ν : Nat → Int) : Prop := ∀ p ∈ eq, p.1.ev ν = p.2.ev ν

def posOf (d : Nat) : List Nat → Option Nat
  | [] => none
  | x :: l => if Nat.beq x d then some 0 else (posOf d l).map Nat.succ

theorem posOf_get {d : Nat} : ∀ {l : List Nat} {i : Nat}, posOf d l = some i → l[i]? = some d
  | [], i, h => by cases h
  | x :: l, i, h => by
    unfold posOf at h
    split at h
    · rename_i e; cases h; simp [Nat.eq_of_beq_eq_true e]
    · simp only [Option.map_eq_some_iff] at h
      obtain ⟨j, h1, rfl⟩ := h
      simpa using posOf_get h1

theorem posOf_inj {d d' : Nat} {l : List Nat} {i : Nat} (h : posOf d l = some i) (h' : posOf d' l = some i) : d = d' := by
  have := posOf_get h
  rw [posOf_get h'] at this
  cases this; rfl

theorem posOf_lt {d : Nat} {l : List Nat} {i : Nat} (h : posOf d l = some i) : i < l.length := (List.getElem?_eq_some_iff.1 (posOf_get h)).1

noncomputable def cOpd (sf : SF) (g : List Nat) : Operand → Acc
  | .tmp d => match posOf d g with
    | some i => stk i
    | none => match posOf d sf.vars with
      | some i => var sf.D i
      | none => accNo
  | .const v => match C.ofV v with
    | some c => ⟨fun _ _ k => k c⟩
    | none => accNo
  | .func f => ⟨fun _ _ k => k (.fn f [])⟩
  | .global n => if sf.gl.elem n then ⟨fun _ _ k => k (.p n 0)⟩ else accNo

/-- The tokens lie within their bounds. -/
def Sat (θ : List (Int × Int)) (ν : Nat → Int) : Prop := ∀ i lo hi, θ[i]? = some (lo, hi) → lo ≤ ν i ∧ ν i ≤ hi

/-- How the slots lie in the frame. -/
structure SRel (sf : SF) (ε : Ev) (g : List Nat) (st : List C) (vs : Tr C) (a : Act) : Prop where
  hst : ∀ d i c, posOf d g = some i → st[i]? = some c → ∃ v, C.real ε c = some v ∧ a.tmps[d]? = some v
  hvs : ∀ d i c, posOf d sf.vars = some i → vs.at i = some c → ∃ v, C.real ε c = some v ∧ a.tmps[d]? = some v
  sh : Sh sf.D vs
  len : sf.vars.length ≤ 4 ^ sf.D
  size : a.tmps.size = sf.nt
  gl : ∀ n, sf.gl.elem n = true → ∃ k, ε.ad n = some ⟨n, 0, k⟩
  th : Sat sf.th ε.ν
  eqs : EqOk sf.eq ε.ν

theorem SRel.le {sf : SF} {ε ε' : Ev} {g : List Nat} {st : List C} {vs : Tr C} {a : Act} (h : SRel sf ε g st vs a) (hle : ε.le ε') : SRel sf ε' g st vs a :=
  ⟨fun d i c h1 h2 => let ⟨v, h3, h4⟩ := h.hst d i c h1 h2; ⟨v, C.real_le hle h3, h4⟩, fun d i c h1 h2 => let ⟨v, h3, h4⟩ := h.hvs d i c h1 h2; ⟨v, C.real_le hle h3, h4⟩, h.sh, h.len, h.size,
    fun n hn => let ⟨k, hk⟩ := h.gl n hn; ⟨k, hle.ad _ _ hk⟩, by rw [hle.ν]; exact h.th, by rw [hle.ν]; exact h.eqs⟩

theorem cOpd_inv {sf : SF} {g : List Nat} {x : Operand} {st : List C} {vs : Tr C} {k : C → R} {r : C × Mem} (h : (cOpd sf g x).g st vs k = some r) :
    ∃ c, k c = some r ∧ ∀ ε a, SRel sf ε g st vs a → C.real ε c = some (a.eval x) := by
  cases x with
  | tmp d =>
    simp only [cOpd] at h
    split at h
    · rename_i i hi
      obtain ⟨c, h1, h2⟩ := stk_inv h
      refine ⟨c, h2, fun ε a hs => ?_⟩
      obtain ⟨v, h3, h4⟩ := hs.hst d i c hi h1
      simp [Act.eval, h3, h4]
    · split at h
      · rename_i i hi
        obtain ⟨c, h1, h2⟩ := var_inv h
        refine ⟨c, h2, fun ε a hs => ?_⟩
        obtain ⟨v, h3, h4⟩ := hs.hvs d i c hi h1
        simp [Act.eval, h3, h4]
      · cases h
  | const v =>
    simp only [cOpd] at h
    split at h
    · rename_i c hc
      exact ⟨c, h, fun ε a _ => C.ofV_ok hc⟩
    · cases h
  | func f => exact ⟨_, h, fun ε a _ => by simp [C.real, C.reals, Act.eval]⟩
  | global n =>
    simp only [cOpd] at h
    split at h
    · rename_i hn
      refine ⟨_, h, fun ε a hs => ?_⟩
      obtain ⟨k, hk⟩ := hs.gl n hn
      simp [C.real, hk, Act.eval]
    · cases h

/-- A value laid into a slot. -/
noncomputable def lay (sf : SF) (d : Nat) : Wr :=
  match posOf d sf.vars with
  | some i => wrv sf.D i
  | none => ⟨fun t _ => t⟩

theorem SRel.put {sf : SF} {ε : Ev} {g : List Nat} {st : List C} {vs : Tr C} {a : Act} (h : SRel sf ε g st vs a) {d : Nat} (hd : Nat.blt d sf.nt = true) {c : C} {v : Value} (hc : C.real ε c = some v) :
    SRel sf ε (d :: g) (c :: st) ((lay sf d).w vs c) (a.put (some d) v) := by
  have hdl : d < a.tmps.size := by rw [h.size]; exact Nat.le_of_ble_eq_true hd
  have hne : ∀ d' u, d' ≠ d → a.tmps[d']? = some u → (a.tmps.setIfInBounds d v)[d']? = some u := fun d' u hn hu => by rw [Array.getElem?_setIfInBounds_ne (fun e => hn e.symm)]; exact hu
  have heq : (a.tmps.setIfInBounds d v)[d]? = some v := by simp [hdl]
  refine ⟨?_, ?_, ?_, h.len, by simpa [Act.put] using h.size, h.gl, h.th, h.eqs⟩
  · intro d' i c' hp hs
    unfold posOf at hp
    split at hp
    · rename_i e
      cases hp
      have := Nat.eq_of_beq_eq_true e
      subst this
      simp only [List.getElem?_cons_zero, Option.some.injEq] at hs
      subst hs
      exact ⟨v, hc, heq⟩
    · rename_i e
      simp only [Option.map_eq_some_iff] at hp
      obtain ⟨j, h1, rfl⟩ := hp
      obtain ⟨u, h2, h3⟩ := h.hst d' j c' h1 (by simpa using hs)
      exact ⟨u, h2, hne d' u (fun e' => e (by subst e'; simp)) h3⟩
  · intro d' i c' hp hs
    unfold lay at hs
    split at hs
    · rename_i j hj
      rw [wrv_eq] at hs
      by_cases e : d' = d
      · subst e
        rw [hj] at hp
        cases hp
        rw [at_set _ _ _ _ h.sh] at hs
        cases hs
        exact ⟨v, hc, heq⟩
      · have hij : i ≠ j := fun e' => e (posOf_inj (e' ▸ hp) hj)
        rw [at_set_ne _ _ _ _ _ h.sh (Nat.lt_of_lt_of_le (posOf_lt hj) h.len) (Nat.lt_of_lt_of_le (posOf_lt hp) h.len) hij] at hs
        obtain ⟨u, h2, h3⟩ := h.hvs d' i c' hp hs
        exact ⟨u, h2, hne d' u e h3⟩
    · rename_i hj
      have e : d' ≠ d := fun e => by rw [e, hj] at hp; cases hp
      obtain ⟨u, h2, h3⟩ := h.hvs d' i c' hp hs
      exact ⟨u, h2, hne d' u e h3⟩
  · unfold lay
    split
    · rw [wrv_eq]; exact Sh_set _ _ _ _ h.sh
    · exact h.sh

/-- A region's own row is left behind. -/
theorem SRel.out {sf : SF} {ε : Ev} {g : List Nat} {st : List C} {vs : Tr C} {a : Act} (h : SRel sf ε g st vs a) : SRel sf ε [] [] vs a :=
  ⟨fun d i c h1 _ => (by cases h1), h.hvs, h.sh, h.len, h.size, h.gl, h.th, h.eqs⟩

end Go.Proofs.YtoihipolfdhhnaaGreatDoor.Vm
