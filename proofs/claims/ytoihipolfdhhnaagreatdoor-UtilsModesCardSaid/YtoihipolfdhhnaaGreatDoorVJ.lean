/-
  Vm, tenth part: closures, tuples, tests against nothing, conversions, interface values.
-/
import Derived.Test.YtoihipolfdhhnaaGreatDoorVI
namespace Go.Proofs.YtoihipolfdhhnaaGreatDoor.Vm

section
variable {P : Program} {sf : SF} {g : List Nat} {o : Oper}

/- MANY OPERANDS -/

structure EA where
  f : List C → Tr C → (List C → R) → R

noncomputable def evA (sf : SF) (g : List Nat) : List Operand → EA
  | [] => ⟨fun _ _ k => k []⟩
  | x :: l => ⟨fun st vs k => (cOpd sf g x).g st vs fun c => (evA sf g l).f st vs fun r => k (c :: r)⟩

theorem evA_ok : ∀ {l : List Operand} {st : List C} {vs : Tr C} {k : List C → R} {r : C × Mem}, (evA sf g l).f st vs k = some r → ∃ cs, k cs = some r ∧ ∀ ε a, SRel sf ε g st vs a → C.reals ε cs = some (l.map a.eval)
  | [], st, vs, k, r, h => ⟨[], h, fun ε a _ => by simp [C.reals]⟩
  | x :: l, st, vs, k, r, h => by
    unfold evA at h
    obtain ⟨c, h1, h2⟩ := cOpd_ok sf g x _ _ _ _ h
    obtain ⟨cs, h3, h4⟩ := evA_ok h1
    exact ⟨c :: cs, h3, fun ε a hs => reals_of (h2 ε a hs) (h4 ε a hs)⟩

noncomputable def oFunc (f : FuncId) (ea : EA) : Opc := ⟨fun st vs m k => ea.f st vs fun l => k (.fn f l) m⟩

theorem oFunc_ok {f : FuncId} {first captured : Array Operand} (ho : o.op = .makeFunc (.func f) first captured) (hf : first.size = 0) : FreeOk P sf g o (oFunc f (evA sf g captured.toList)) :=
  fun st vs m k r h => by
    obtain ⟨cs, h1, h2⟩ := evA_ok h
    refine ⟨_, h1, fun ε a w hs => ⟨_, by simp only [C.real, h2 ε a hs, Option.map_some]; rfl, ?_⟩⟩
    have : first = #[] := Array.eq_empty_of_size_eq_zero hf
    subst this
    have e : (captured.toList.map a.eval).toArray = captured.map a.eval := by apply Array.ext'; simp
    simp [execOp, ho, Instr.makeFunc, e]

noncomputable def oExtract (i : Nat) (ax : Acc) : Opc := ⟨fun st vs m k => ax.g st vs fun c => c.onTup fun l => onO (nth l i) fun c => k c m⟩

theorem oExtract_ok {x : Operand} {i : Nat} {ax : Acc} (ho : o.op = .extract x i) (hx : AccOk sf g x ax) : FreeOk P sf g o (oExtract i ax) :=
  fun st vs m k r h => by
    obtain ⟨c, h1, h2⟩ := hx _ _ _ _ h
    obtain ⟨l, rfl, h3⟩ := C.onTup_inv h1
    obtain ⟨c, h4, h5⟩ := onO_inv h3
    rw [nth_eq] at h4
    refine ⟨_, h5, fun ε a w hs => ?_⟩
    have r1 := h2 ε a hs
    simp only [C.real, Option.map_eq_some_iff] at r1
    obtain ⟨vs', h6, h7⟩ := r1
    obtain ⟨v, h8, h9⟩ := reals_get h6 _ _ h4
    exact ⟨v, h9, by simp [execOp, ho, Instr.extract, ← h7, h8]⟩

/- ONE OPERAND -/

noncomputable def oNot (ax : Acc) : Opc := ⟨fun st vs m k => ax.g st vs fun c => c.onBool fun b => k (.bool (onB b false true)) m⟩

theorem oNot_ok {t : TypeId} {x : Operand} {ax : Acc} (ho : o.op = .unOp .not t x) (hx : AccOk sf g x ax) : FreeOk P sf g o (oNot ax) :=
  fun st vs m k r h => by
    obtain ⟨c, h1, h2⟩ := hx _ _ _ _ h
    obtain ⟨b, rfl, h3⟩ := C.onBool_inv h1
    refine ⟨_, h3, fun ε a w hs => ⟨_, rfl, ?_⟩⟩
    have r1 := h2 ε a hs
    simp only [C.real, Option.some.injEq] at r1
    cases b <;> simp [execOp, ho, Op.unary, ← r1, onB]

noncomputable def oNeg (ax : Acc) : Opc := ⟨fun st vs m k => ax.g st vs fun c => c.onNum (fun kd n => (fiOf .sub kd).f 18446744073709551616 n fun s => k (.int kd s) m) (fun kd e => k (.sy kd (.bin .sub kd (.lit 0) e)) m)⟩

theorem oNeg_ok {t : TypeId} {x : Operand} {ax : Acc} (ho : o.op = .unOp .neg t x) (hx : AccOk sf g x ax) : FreeOk P sf g o (oNeg ax) :=
  fun st vs m k r h => by
    obtain ⟨c, h1, h2⟩ := hx _ _ _ _ h
    rcases C.onNum_inv h1 with ⟨kd, n, rfl, h3⟩ | ⟨kd, e, rfl, h3⟩
    · obtain ⟨s, h4, h5⟩ := fiOf_ok .sub kd _ _ _ _ h3
      refine ⟨_, h4, fun ε a w hs => ⟨_, rfl, ?_⟩⟩
      have r1 := h2 ε a hs
      simp only [C.real, Option.some.injEq] at r1
      simp only [arI, toI_B, Option.some.injEq] at h5
      simp [execOp, ho, Op.unary, ← r1, Op.intArith, ← h5]
    · refine ⟨_, h3, fun ε a w hs => ?_⟩
      have r1 := h2 ε a hs
      simp only [C.real, Option.map_eq_some_iff] at r1
      obtain ⟨z, h4, h5⟩ := r1
      refine ⟨.int kd (kd.wrap (0 - z)), by simp [C.real, SE.ev, h4, arI], ?_⟩
      simp [execOp, ho, Op.unary, ← h5, Op.intArith]

/-- A number of another kind. -/
noncomputable def oCv (eq : List (SE × SE)) (kd : IntKind) (ax : Acc) : Opc :=
  ⟨fun st vs m k => ax.g st vs fun c => c.onNum (fun _ n => onB (Nat.ble (loN kd) n) (onB (Nat.ble n (hiN kd)) (k (.int kd n) m) (k (.int kd (ofI (kd.wrap (toI n)))) m)) (k (.int kd (ofI (kd.wrap (toI n)))) m)) (fun _ e => k (.sy kd (normE eq (.cv kd e))) m)⟩

theorem wrap_ge (k : IntKind) (n : Int) : 0 ≤ k.wrap n + 18446744073709551616 := by
  cases k <;> simp only [IntKind.wrap, IntKind.bits, IntKind.signed] <;> simp <;> first | omega | (split <;> omega)

theorem run_cv {t u : TypeId} {kd ks : IntKind} {z : Int} (w : World) (hu : P.underlying u = some (.int kd)) (ht : ∃ d, P.underlying t = some d) : (convert t u (.int ks z)).run P w = .ok (.int kd (kd.wrap z)) w := by
  obtain ⟨d, ht⟩ := ht
  simp [convert, run_underlying hu, run_underlying ht, Conv.intToInt]

theorem oCv_ok {t u : TypeId} {x : Operand} {kd : IntKind} {ti tu : TI} {ax : Acc} (ho : o.op = .convert t u x) (ht : tiOf P t = some ti) (hu : tiOf P u = some tu) (hk : tu.und = .int kd) (hx : AccOk sf g x ax) : FreeOk P sf g o (oCv sf.eq kd ax) :=
  fun st vs m k r h => by
    have h0 := (tiOf_ok hu).und
    rw [hk] at h0
    obtain ⟨c, h1, h2⟩ := hx _ _ _ _ h
    rcases C.onNum_inv h1 with ⟨ks, n, rfl, h3⟩ | ⟨ks, e, rfl, h3⟩
    · have run : ∀ ε a w, SRel sf ε g st vs a → (execOp a.eval o).run P w = .ok (.value (.int kd (kd.wrap (toI n)))) w := by
        intro ε a w hs
        have r1 := h2 ε a hs
        simp only [C.real, Option.some.injEq] at r1
        have := run_cv (P := P) (ks := ks) (z := toI n) w h0 ⟨_, (tiOf_ok ht).und⟩
        simp only [execOp, ho, ← r1, Sem.run_bind, this, Result.andThen_ok, Sem.run_pure]
      have slow : k (.int kd (ofI (kd.wrap (toI n)))) m = some r → ∃ c, k c m = some r ∧ ∀ ε a w, SRel sf ε g st vs a → ∃ v, C.real ε c = some v ∧ (execOp a.eval o).run P w = .ok (.value v) w := fun h =>
        ⟨_, h, fun ε a w hs => ⟨_, by simp only [C.real, toI_ofI (wrap_ge _ _)], run ε a w hs⟩⟩
      rcases onB_cases h3 with ⟨h4, h5⟩ | ⟨_, h5⟩
      · rcases onB_cases h5 with ⟨h6, h7⟩ | ⟨_, h7⟩
        · exact ⟨_, h7, fun ε a w hs => ⟨_, rfl, by rw [run ε a w hs, wrap_id (ble_le h4) (ble_le h6)]⟩⟩
        · exact slow h7
      · exact slow h5
    · refine ⟨_, h3, fun ε a w hs => ?_⟩
      have r1 := h2 ε a hs
      simp only [C.real, Option.map_eq_some_iff] at r1
      obtain ⟨z, h4, h5⟩ := r1
      refine ⟨.int kd (kd.wrap z), by simp [C.real, normE_ev hs.eqs, SE.ev, h4], ?_⟩
      have := run_cv (P := P) (ks := ks) (z := z) w h0 ⟨_, (tiOf_ok ht).und⟩
      simp only [execOp, ho, ← h5, Sem.run_bind, this, Result.andThen_ok, Sem.run_pure]

/-- A text as it is. -/
noncomputable def oCvS (ax : Acc) : Opc := ⟨fun st vs m k => ax.g st vs fun c => c.onStr fun n d => k (.str n d) m⟩

theorem oCvS_ok {t u : TypeId} {x : Operand} {ti tu : TI} {ax : Acc} (ho : o.op = .convert t u x) (ht : tiOf P t = some ti) (hu : tiOf P u = some tu) (hk : tu.und = .string) (hx : AccOk sf g x ax) : FreeOk P sf g o (oCvS ax) :=
  fun st vs m k r h => by
    have h0 := (tiOf_ok hu).und
    rw [hk] at h0
    obtain ⟨c, h1, h2⟩ := hx _ _ _ _ h
    obtain ⟨n, d, rfl, h3⟩ := C.onStr_inv h1
    refine ⟨_, h3, fun ε a w hs => ⟨_, rfl, ?_⟩⟩
    have r1 := real_str (h2 ε a hs)
    have : (convert t u (.string (textOf ε.ν n d))).run P w = .ok (.string (textOf ε.ν n d)) w := by
      simp [convert, run_underlying h0, run_underlying (tiOf_ok ht).und]
    simp only [execOp, ho, r1, Sem.run_bind, this, Result.andThen_ok, Sem.run_pure]

/- INTERFACE VALUES -/

def notIfc : TypeDesc → Bool
  | .interface _ => false
  | _ => true

noncomputable def oIfc (t : TypeId) (ax : Acc) : Opc := ⟨fun st vs m k => ax.g st vs fun c => k (.ifc t c) m⟩

theorem oIfc_ok {t : TypeId} {x : Operand} {ti : TI} {ax : Acc} (ho : o.op = .makeInterface t x) (ht : tiOf P t = some ti) (hn : notIfc ti.und = true) (hx : AccOk sf g x ax) : FreeOk P sf g o (oIfc t ax) :=
  fun st vs m k r h => by
    obtain ⟨c, h1, h2⟩ := hx _ _ _ _ h
    refine ⟨_, h1, fun ε a w hs => ⟨.iface t (a.eval x), by simp only [C.real, h2 ε a hs, Option.map_some], ?_⟩⟩
    have h0 := (tiOf_ok ht).run_und w
    cases hd : ti.und <;> rw [hd] at h0 hn <;> first | (cases hn; done) | simp [execOp, ho, Instr.makeInterface, h0]

/- TESTS AGAINST NOTHING -/

/-- What a test of two values tells, by the model's own equality. -/
theorem run_eqNil {w : World} {op : BinOp} {t : TypeId} {x y : Operand} {v u : Value} {e b : Bool} (hb : (op = .eql ∧ b = e) ∨ (op = .neq ∧ b = !e)) (hg : (eqGuard op t x y v u).run P w = .ok () w)
    (he : ∀ d, (Op.equalIn (d + 1) t v u).run P w = .ok e w) (h1 : binOp .eql t v u = (do pure (.bool (← Op.equal t v u)))) (h2 : binOp .neq t v u = (do pure (.bool (!(← Op.equal t v u))))) :
    ((do eqGuard op t x y v u; binOp op t v u) : Sem Value).run P w = .ok (.bool b) w := by
  have h' : (Op.equal t v u).run P w = .ok e w := he 9999
  rcases hb with ⟨rfl, rfl⟩ | ⟨rfl, rfl⟩
  · simp only [Sem.run_bind, hg, Result.andThen_ok, h1, h', Sem.run_pure]
  · simp only [Sem.run_bind, hg, Result.andThen_ok, h2, h', Sem.run_pure]

noncomputable def oNilP (neg : Bool) (ax : Acc) : Opc := ⟨fun st vs m k => ax.g st vs fun c => c.onP2 (fun _ _ => k (.bool neg) m) (k (.bool (onB neg false true)) m)⟩
noncomputable def oNilF (neg : Bool) (ax : Acc) : Opc := ⟨fun st vs m k => ax.g st vs fun c => c.onF2 (fun _ _ => k (.bool neg) m) (k (.bool (onB neg false true)) m)⟩
noncomputable def oNilS (neg : Bool) (ax : Acc) : Opc := ⟨fun st vs m k => ax.g st vs fun c => c.onSls (fun _ _ _ _ _ => k (.bool neg) m) (k (.bool (onB neg false true)) m)⟩
noncomputable def oNilI (neg : Bool) (ax : Acc) : Opc := ⟨fun st vs m k => ax.g st vs fun c => c.onIf (fun _ _ => k (.bool neg) m) (k (.bool (onB neg false true)) m)⟩
noncomputable def oNilM (neg : Bool) (ax : Acc) : Opc := ⟨fun st vs m k => ax.g st vs fun c => c.onMps (fun _ => k (.bool neg) m) (k (.bool (onB neg false true)) m)⟩

def negOk (op : BinOp) (neg : Bool) : Prop := (op = .eql ∧ neg = false) ∨ (op = .neq ∧ neg = true)

theorem neg_f {op : BinOp} {neg : Bool} (h : negOk op neg) : (op = .eql ∧ neg = false) ∨ (op = .neq ∧ neg = !false) := h
theorem neg_t {op : BinOp} {neg : Bool} (h : negOk op neg) : (op = .eql ∧ onB neg false true = true) ∨ (op = .neq ∧ onB neg false true = !true) := by
  rcases h with ⟨h, rfl⟩ | ⟨h, rfl⟩
  · exact .inl ⟨h, rfl⟩
  · exact .inr ⟨h, rfl⟩

theorem oNilP_ok {op : BinOp} {t e : TypeId} {x : Operand} {ty : TypeId} {ti : TI} {neg : Bool} {ax : Acc} (ho : o.op = .binOp op t x (.const (.pointer none)) ty) (ht : tiOf P t = some ti) (hu : ti.und = .pointer e) (hn : negOk op neg) (hx : AccOk sf g x ax) : FreeOk P sf g o (oNilP neg ax) :=
  fun st vs m k r h => by
    have h0 := (tiOf_ok ht).und
    rw [hu] at h0
    obtain ⟨c, h1, h2⟩ := hx _ _ _ _ h
    rcases C.onP2_inv h1 with ⟨b, q, rfl, h3⟩ | ⟨rfl, h3⟩
    · refine ⟨_, h3, fun ε a w hs => ⟨_, rfl, ?_⟩⟩
      obtain ⟨z, _, r1⟩ := real_p (h2 ε a hs)
      have := run_eqNil (P := P) (w := w) (t := t) (x := x) (y := .const (.pointer none)) (v := a.eval x) (u := .pointer none) (neg_f hn) (by rw [r1]; cases op <;> simp [eqGuard]) (fun d => by rw [r1]; simp [Op.equalIn, run_underlying h0]) (by rw [r1]; rfl) (by rw [r1]; rfl)
      simp only [execOp, ho, Sem.run_bind, Act.eval] at this ⊢
      rw [this]; rfl
    · refine ⟨_, h3, fun ε a w hs => ⟨_, rfl, ?_⟩⟩
      have r1 := h2 ε a hs
      simp only [C.real, Option.some.injEq] at r1
      have := run_eqNil (P := P) (w := w) (t := t) (x := x) (y := .const (.pointer none)) (v := a.eval x) (u := .pointer none) (neg_t hn) (by rw [← r1]; cases op <;> simp [eqGuard]) (fun d => by rw [← r1]; simp [Op.equalIn, run_underlying h0]) (by rw [← r1]; rfl) (by rw [← r1]; rfl)
      simp only [execOp, ho, Sem.run_bind, Act.eval] at this ⊢
      rw [this]; rfl

theorem oNilF_ok {op : BinOp} {t : TypeId} {p q : Array TypeId} {vr : Bool} {x : Operand} {ty : TypeId} {ti : TI} {neg : Bool} {ax : Acc} (ho : o.op = .binOp op t x (.const .nilFunc) ty) (ht : tiOf P t = some ti) (hu : ti.und = .func p q vr) (hn : negOk op neg) (hx : AccOk sf g x ax) : FreeOk P sf g o (oNilF neg ax) :=
  fun st vs m k r h => by
    have h0 := (tiOf_ok ht).und
    rw [hu] at h0
    obtain ⟨c, h1, h2⟩ := hx _ _ _ _ h
    rcases C.onF2_inv h1 with ⟨b, q, rfl, h3⟩ | ⟨rfl, h3⟩
    · refine ⟨_, h3, fun ε a w hs => ⟨_, rfl, ?_⟩⟩
      have r1 := h2 ε a hs
      simp only [C.real, Option.map_eq_some_iff] at r1
      obtain ⟨z, _, r1⟩ := r1
      have := run_eqNil (P := P) (w := w) (t := t) (x := x) (y := .const .nilFunc) (v := a.eval x) (u := .nilFunc) (neg_f hn) (by rw [← r1]; cases op <;> simp [eqGuard]) (fun d => by rw [← r1]; simp [Op.equalIn, run_underlying h0]) (by rw [← r1]; rfl) (by rw [← r1]; rfl)
      simp only [execOp, ho, Sem.run_bind, Act.eval] at this ⊢
      rw [this]; rfl
    · refine ⟨_, h3, fun ε a w hs => ⟨_, rfl, ?_⟩⟩
      have r1 := h2 ε a hs
      simp only [C.real, Option.some.injEq] at r1
      have := run_eqNil (P := P) (w := w) (t := t) (x := x) (y := .const .nilFunc) (v := a.eval x) (u := .nilFunc) (neg_t hn) (by rw [← r1]; cases op <;> simp [eqGuard]) (fun d => by rw [← r1]; simp [Op.equalIn, run_underlying h0]) (by rw [← r1]; rfl) (by rw [← r1]; rfl)
      simp only [execOp, ho, Sem.run_bind, Act.eval] at this ⊢
      rw [this]; rfl

theorem oNilS_ok {op : BinOp} {t e : TypeId} {x : Operand} {ty : TypeId} {ti : TI} {neg : Bool} {ax : Acc} (ho : o.op = .binOp op t x (.const (.slice none 0 0)) ty) (ht : tiOf P t = some ti) (hu : ti.und = .slice e) (hn : negOk op neg) (hx : AccOk sf g x ax) : FreeOk P sf g o (oNilS neg ax) :=
  fun st vs m k r h => by
    have h0 := (tiOf_ok ht).und
    rw [hu] at h0
    obtain ⟨c, h1, h2⟩ := hx _ _ _ _ h
    rcases C.onSls_inv h1 with ⟨b, q, n, cu, cp, rfl, h3⟩ | ⟨rfl, h3⟩
    · refine ⟨_, h3, fun ε a w hs => ⟨_, rfl, ?_⟩⟩
      obtain ⟨z, _, _, r1⟩ := real_sl (h2 ε a hs)
      have := run_eqNil (P := P) (w := w) (t := t) (x := x) (y := .const (.slice none 0 0)) (v := a.eval x) (u := .slice none 0 0) (neg_f hn) (by rw [r1]; cases op <;> simp [eqGuard]) (fun d => by rw [r1]; simp [Op.equalIn, run_underlying h0]) (by rw [r1]; rfl) (by rw [r1]; rfl)
      simp only [execOp, ho, Sem.run_bind, Act.eval] at this ⊢
      rw [this]; rfl
    · refine ⟨_, h3, fun ε a w hs => ⟨_, rfl, ?_⟩⟩
      have r1 := h2 ε a hs
      simp only [C.real, Option.some.injEq] at r1
      have := run_eqNil (P := P) (w := w) (t := t) (x := x) (y := .const (.slice none 0 0)) (v := a.eval x) (u := .slice none 0 0) (neg_t hn) (by rw [← r1]; cases op <;> simp [eqGuard]) (fun d => by rw [← r1]; simp [Op.equalIn, run_underlying h0]) (by rw [← r1]; rfl) (by rw [← r1]; rfl)
      simp only [execOp, ho, Sem.run_bind, Act.eval] at this ⊢
      rw [this]; rfl

theorem oNilI_ok {op : BinOp} {t : TypeId} {ms : Array (String × TypeId)} {x : Operand} {ty : TypeId} {ti : TI} {neg : Bool} {ax : Acc} (ho : o.op = .binOp op t x (.const .nilIface) ty) (ht : tiOf P t = some ti) (hu : ti.und = .interface ms) (hn : negOk op neg) (hx : AccOk sf g x ax) : FreeOk P sf g o (oNilI neg ax) :=
  fun st vs m k r h => by
    have h0 := (tiOf_ok ht).und
    rw [hu] at h0
    obtain ⟨c, h1, h2⟩ := hx _ _ _ _ h
    rcases C.onIf_inv h1 with ⟨b, q, rfl, h3⟩ | ⟨rfl, h3⟩
    · refine ⟨_, h3, fun ε a w hs => ⟨_, rfl, ?_⟩⟩
      have r1 := h2 ε a hs
      simp only [C.real, Option.map_eq_some_iff] at r1
      obtain ⟨z, _, r1⟩ := r1
      have := run_eqNil (P := P) (w := w) (t := t) (x := x) (y := .const .nilIface) (v := a.eval x) (u := .nilIface) (neg_f hn) (by rw [← r1]; cases op <;> simp [eqGuard]) (fun d => by rw [← r1]; simp [Op.equalIn, run_underlying h0]) (by rw [← r1]; rfl) (by rw [← r1]; rfl)
      simp only [execOp, ho, Sem.run_bind, Act.eval] at this ⊢
      rw [this]; rfl
    · refine ⟨_, h3, fun ε a w hs => ⟨_, rfl, ?_⟩⟩
      have r1 := h2 ε a hs
      simp only [C.real, Option.some.injEq] at r1
      have := run_eqNil (P := P) (w := w) (t := t) (x := x) (y := .const .nilIface) (v := a.eval x) (u := .nilIface) (neg_t hn) (by rw [← r1]; cases op <;> simp [eqGuard]) (fun d => by rw [← r1]; simp [Op.equalIn, run_underlying h0]) (by rw [← r1]; rfl) (by rw [← r1]; rfl)
      simp only [execOp, ho, Sem.run_bind, Act.eval] at this ⊢
      rw [this]; rfl

theorem oNilM_ok {op : BinOp} {t kt vt : TypeId} {x : Operand} {ty : TypeId} {ti : TI} {neg : Bool} {ax : Acc} (ho : o.op = .binOp op t x (.const (.map none)) ty) (ht : tiOf P t = some ti) (hu : ti.und = .map kt vt) (hn : negOk op neg) (hx : AccOk sf g x ax) : FreeOk P sf g o (oNilM neg ax) :=
  fun st vs m k r h => by
    have h0 := (tiOf_ok ht).und
    rw [hu] at h0
    obtain ⟨c, h1, h2⟩ := hx _ _ _ _ h
    rcases C.onMps_inv h1 with ⟨b, rfl, h3⟩ | ⟨rfl, h3⟩
    · refine ⟨_, h3, fun ε a w hs => ⟨_, rfl, ?_⟩⟩
      have r1 := h2 ε a hs
      simp only [C.real, Option.map_eq_some_iff] at r1
      obtain ⟨z, _, r1⟩ := r1
      have := run_eqNil (P := P) (w := w) (t := t) (x := x) (y := .const (.map none)) (v := a.eval x) (u := .map none) (neg_f hn) (by rw [← r1]; cases op <;> simp [eqGuard]) (fun d => by rw [← r1]; simp [Op.equalIn, run_underlying h0]) (by rw [← r1]; rfl) (by rw [← r1]; rfl)
      simp only [execOp, ho, Sem.run_bind, Act.eval] at this ⊢
      rw [this]; rfl
    · refine ⟨_, h3, fun ε a w hs => ⟨_, rfl, ?_⟩⟩
      have r1 := h2 ε a hs
      simp only [C.real, Option.some.injEq] at r1
      have := run_eqNil (P := P) (w := w) (t := t) (x := x) (y := .const (.map none)) (v := a.eval x) (u := .map none) (neg_t hn) (by rw [← r1]; cases op <;> simp [eqGuard]) (fun d => by rw [← r1]; simp [Op.equalIn, run_underlying h0]) (by rw [← r1]; rfl) (by rw [← r1]; rfl)
      simp only [execOp, ho, Sem.run_bind, Act.eval] at this ⊢
      rw [this]; rfl

/-- Are two truths the same? -/
noncomputable def oBoolEq (neg : Bool) (ax ay : Acc) : Opc := ⟨fun st vs m k => ax.g st vs fun c => ay.g st vs fun d => c.onBool fun a => d.onBool fun b => k (.bool (onB neg (onB a (onB b false true) b) (onB a b (onB b false true)))) m⟩

theorem oBoolEq_ok {op : BinOp} {t : TypeId} {x y : Operand} {ty : TypeId} {ti : TI} {neg : Bool} {ax ay : Acc} (ho : o.op = .binOp op t x y ty) (ht : tiOf P t = some ti) (hu : ti.und = .bool) (hn : negOk op neg) (hx : AccOk sf g x ax) (hy : AccOk sf g y ay) : FreeOk P sf g o (oBoolEq neg ax ay) :=
  fun st vs m k r h => by
    have h0 := (tiOf_ok ht).und
    rw [hu] at h0
    obtain ⟨c, h1, h2⟩ := hx _ _ _ _ h
    obtain ⟨d, h3, h4⟩ := hy _ _ _ _ h1
    obtain ⟨p, rfl, h5⟩ := C.onBool_inv h3
    obtain ⟨q, rfl, h6⟩ := C.onBool_inv h5
    refine ⟨_, h6, fun ε a w hs => ⟨_, rfl, ?_⟩⟩
    have r1 := h2 ε a hs
    have r2 := h4 ε a hs
    simp only [C.real, Option.some.injEq] at r1 r2
    have := run_eqNil (P := P) (w := w) (op := op) (t := t) (x := x) (y := y) (v := a.eval x) (u := a.eval y) (e := p == q) (b := onB neg (onB p (onB q false true) q) (onB p q (onB q false true)))
      (by rcases hn with ⟨hq, rfl⟩ | ⟨hq, rfl⟩ <;> cases p <;> cases q <;> first | exact .inl ⟨hq, rfl⟩ | exact .inr ⟨hq, rfl⟩) (by rw [← r1, ← r2]; cases op <;> simp [eqGuard]) (fun d => by rw [← r1, ← r2]; simp [Op.equalIn, run_underlying h0]) (by rw [← r1, ← r2]; rfl) (by rw [← r1, ← r2]; rfl)
    simp only [execOp, ho, Sem.run_bind] at this ⊢
    rw [this]; rfl

end

end Go.Proofs.YtoihipolfdhhnaaGreatDoor.Vm
