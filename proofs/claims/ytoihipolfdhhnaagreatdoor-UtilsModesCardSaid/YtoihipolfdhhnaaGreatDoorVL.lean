/-
  Vm, twelfth part: operations, regions (those that draw their order too), code; that a run of it is a run of the model.
-/
import Derived.Test.YtoihipolfdhhnaaGreatDoorVK2
import Derived.Scope
import Derived.OrdersHeld
namespace Go.Proofs.YtoihipolfdhhnaaGreatDoor.Vm

/- FRAMES -/

def base (f : FuncId) : Frame := { (default : Frame) with fn := f, kind := .normal }

/-- From here the frame of function f comes to R. -/
def Gets (P : Program) (f : FuncId) (k : List Item) (a : Act) (w : World) (R : Ending → World → Prop) : Prop :=
  ∀ cs, ∃ e w' fr, R e w' ∧ Comes P (lone ((base f).at a k) cs w) (lone fr cs w') e ∧ fr.fn = f ∧ fr.leaving P w' e

theorem Gets.of_steps {P : Program} {f : FuncId} {k k' : List Item} {a a' : Act} {w w' : World} {R : Ending → World → Prop}
    (h : ∀ cs, Steps P (lone ((base f).at a k) cs w) (lone ((base f).at a' k') cs w')) (hg : Gets P f k' a' w' R) : Gets P f k a w R :=
  fun cs => let ⟨e, w'', fr, hR, hc, hf, hl⟩ := hg cs; ⟨e, w'', fr, hR, Comes.of_steps (h cs) hc, hf, hl⟩

theorem Gets.step {P : Program} {f : FuncId} {k k' : List Item} {a a' : Act} {w w' : World} {R : Ending → World → Prop}
    (h : ∀ cs, Go.step P (lone ((base f).at a k) cs w) = .next (lone ((base f).at a' k') cs w')) (hg : Gets P f k' a' w' R) : Gets P f k a w R :=
  Gets.of_steps (fun cs => .one (h cs)) hg

theorem Gets.mono {P : Program} {f : FuncId} {k : List Item} {a : Act} {w : World} {R R' : Ending → World → Prop} (h : ∀ e w, R e w → R' e w) (hg : Gets P f k a w R) : Gets P f k a w R' :=
  fun cs => let ⟨e, w'', fr, hR, hc⟩ := hg cs; ⟨e, w'', fr, h _ _ hR, hc⟩

/-- What is wanted behind a region. -/
def Behind (P : Program) (f : FuncId) (k : List Item) (R : Ending → World → Prop) (e : Exit) (a : Act) (w : World) : Prop :=
  e = .normal ∧ Gets P f k a w R

theorem gets_draw {P : Program} {f : FuncId} {id : Nat} {ops : Array Oper} {k : List Item} {a : Act} {w : World} {R : Ending → World → Prop} {S : World → Prop} (hm : P.follows .mixedOrders = true)
    (h : wpAnyH P .any ops (Behind P f k R) S ops.size (Array.replicate ops.size false) a { w with drawn := w.drawn + 1 }) : Gets P f (.code (.region id ops true) :: k) a w R := by
  intro cs
  obtain ⟨e, a', w', ⟨he, hg⟩, harr⟩ := wp_region_held hm h (base f) k cs
  subst he
  obtain ⟨e2, w2, fr, hR, hc, hf, hl⟩ := hg cs
  exact ⟨e2, w2, fr, hR, Comes.of_steps harr hc, hf, hl⟩

abbrev CallF := FuncId → List C → Mem → (C → Mem → R) → R
abbrev K := Tr C → Mem → R

/-- Deferred calls. -/
def DRel (ε : Ev) : List Dfr → List Deferred → Prop
  | [], [] => True
  | d :: l, x :: r => (∃ caps args, C.reals ε d.caps = some caps ∧ C.reals ε d.args = some args ∧ x = ⟨.fn (.func d.f) caps.toArray, args.toArray⟩) ∧ DRel ε l r
  | _, _ => False

theorem DRel.le {ε ε' : Ev} (h : ε.le ε') : ∀ {l : List Dfr} {r : List Deferred}, DRel ε l r → DRel ε' l r
  | [], [], _ => trivial
  | d :: l, x :: r, ⟨⟨c, a, h1, h2, h3⟩, h4⟩ => ⟨⟨c, a, C.reals_le h h1, C.reals_le h h2, h3⟩, h4.le h⟩
  | [], _ :: _, h => h.elim
  | _ :: _, [], h => h.elim

def enters (P : Program) (g : FuncId) : Bool :=
  match P.funcs[g]? with
  | some fn => !(fn.name == "runtime.NumGoroutine") && fn.body.isSome
  | none => false

theorem run_callFunc {P : Program} {g : FuncId} (h : enters P g = true) (args : Array Value) (w : World) : (callFunc g args).run P w = .ok (.enter g args) w := by
  unfold enters at h
  split at h
  · rename_i fn hf
    simp only [Bool.and_eq_true, Bool.not_eq_true'] at h
    have hb : fn.body.isNone = false := by cases hb : fn.body <;> simp_all
    simp only [callFunc, Sem.run_bind, run_program, Result.andThen_ok, hf, h.1, Bool.false_eq_true, if_false, hb, Sem.run_pure]
  · cases h

/-- What does not change in a run. -/
structure Stat where
  gl : List Nat
  th : List (Int × Int)
  eq : List (SE × SE)

structure Stat.ok (s : Stat) (ε : Ev) : Prop where
  gl : ∀ n, s.gl.elem n = true → ∃ k, ε.ad n = some ⟨n, 0, k⟩
  th : Sat s.th ε.ν
  eqs : EqOk s.eq ε.ν

theorem Stat.ok.le {s : Stat} {ε ε' : Ev} (h : s.ok ε) (hle : ε.le ε') : s.ok ε' :=
  ⟨fun n hn => let ⟨k, hk⟩ := h.gl n hn; ⟨k, hle.ad _ _ hk⟩, by rw [hle.ν]; exact h.th, by rw [hle.ν]; exact h.eqs⟩

/-- What a call comes to. -/
def Ret (wb : World) (ε : Ev) (c : C) (m : Mem) (e : Ending) (w : World) : Prop := ∃ v ε', e = .returned v ∧ ε.le ε' ∧ C.real ε' c = some v ∧ MRel wb ε' m w

theorem Ret.le {wb : World} {ε ε' : Ev} (h : ε.le ε') {c : C} {m : Mem} {e : Ending} {w : World} (hr : Ret wb ε' c m e w) : Ret wb ε c m e w :=
  let ⟨v, ε2, h1, h2, h3, h4⟩ := hr; ⟨v, ε2, h1, h.trans h2, h3, h4⟩

/-- What a call does: it hands back a value at once, or it is entered. -/
def DoesC (P : Program) (wb : World) (f : FuncId) (vals : Array Value) (ε : Ev) (w : World) (c : C) (m' : Mem) : Prop :=
  (∃ ε' v w', ε.le ε' ∧ C.real ε' c = some v ∧ MRel wb ε' m' w' ∧ (callFunc f vals).run P w = .ok (.value v) w') ∨ (enters P f = true ∧ Calls P f vals w (Ret wb ε c m'))

/-- One function's call. -/
def FunOk (P : Program) (wb : World) (s : Stat) (f : FuncId) (x : List C → Mem → (C → Mem → R) → R) : Prop :=
  ∀ args m k r, x args m k = some r → ∃ c m', k c m' = some r ∧ m'.df = m.df ∧
    ∀ ε vals w, s.ok ε → C.reals ε args = some vals → MRel wb ε m w → DoesC P wb f vals.toArray ε w c m'

def CallOk (P : Program) (wb : World) (s : Stat) (cf : CallF) : Prop := ∀ f, FunOk P wb s f (cf f)

/-- From these items on, the frame comes to what k0 makes r of. -/
def Ends (P : Program) (wb : World) (f : FuncId) (k0 : C → Mem → R) (r : C × Mem) (rel : Ev → Act → World → Prop) (items : List Item) : Prop :=
  ∃ c m', k0 c m' = some r ∧ ∀ ε a w, rel ε a w → Gets P f items a w (Ret wb ε c m')

/-- How slots and memory lie. -/
structure FRel (wb : World) (sf : SF) (g : List Nat) (st : List C) (vs : Tr C) (m : Mem) (ε : Ev) (a : Act) (w : World) : Prop where
  sl : SRel sf ε g st vs a
  mem : MRel wb ε m w
  df : DRel ε m.df a.defers

def KOk (P : Program) (wb : World) (f : FuncId) (k0 : C → Mem → R) (r : C × Mem) (sf : SF) (items : List Item) (k : K) : Prop :=
  ∀ vs m, k vs m = some r → Ends P wb f k0 r (FRel wb sf [] [] vs m) items

/- ONE OPERATION -/

noncomputable def appR (l r : List C) : List C := List.rec (motive := fun _ => List C) r (fun c _ ih => c :: ih) l

theorem appR_eq (l r : List C) : appR l r = l ++ r := by
  induction l with
  | nil => rfl
  | cons c l ih => exact congrArg (c :: ·) ih

structure RO where
  r : CallF → List C → Tr C → Mem → (C → Mem → R) → R

noncomputable def cRun (P : Program) (sf : SF) (g : List Nat) (o : Oper) : RO :=
  match o.op with
  | .call ⟨.value (.func f), args, _⟩ => ⟨fun cf st vs m k => (evA sf g args.toList).f st vs fun l => cf f l m k⟩
  | .call ⟨.value x, args, _⟩ => ⟨fun cf st vs m k => (cOpd sf g x).g st vs fun c => c.onFn fun f caps => (evA sf g args.toList).f st vs fun l => cf f (appR l caps) m k⟩
  | _ => ⟨fun _ st vs m k => (cOp P sf g o).o st vs m k⟩

/- REGIONS -/

structure RB where
  b : CallF → List C → Tr C → Mem → K → R

noncomputable def C.onGuard (c : C) (want : Bool) (t f : R) : R :=
  C.rec (motive_1 := fun _ => R) (motive_2 := fun _ => R) (fun _ _ => none) (fun _ _ => none) (fun b => onB want (onB b t f) (onB b f t)) (fun _ _ => none) none (fun _ _ _ => none) none (fun _ _ _ _ _ => none) none (fun _ _ _ => none) none (fun _ => none) none f (fun _ _ _ => none) (fun _ _ => none) (fun _ _ => none) (fun _ _ _ _ _ _ => none) none (fun _ _ _ _ => none) c

theorem C.onGuard_inv {c : C} {want : Bool} {t f : R} {r : C × Mem} (h : c.onGuard want t f = some r) : (c = .bool want ∧ t = some r) ∨ ((∃ b, c = .bool b ∧ b ≠ want) ∧ f = some r) ∨ (c = .undef ∧ f = some r) := by
  cases c <;> first | (cases h; done) | skip
  · rename_i b
    cases want <;> cases b
    · exact .inl ⟨rfl, h⟩
    · exact .inr (.inl ⟨⟨_, rfl, by simp⟩, h⟩)
    · exact .inr (.inl ⟨⟨_, rfl, by simp⟩, h⟩)
    · exact .inl ⟨rfl, h⟩
  · exact .inr (.inr ⟨rfl, h⟩)

noncomputable def cIdx (P : Program) (sf : SF) (ops : Array Oper) : List Nat → List Nat → RB
  | [], _ => ⟨fun _ _ vs m k => k vs m⟩
  | i :: is, g => match nth ops.toList i with
    | none => ⟨fun _ _ _ _ _ => none⟩
    | some o => match o.guard, o.dst with
      | none, none => ⟨fun cf st vs m k => (cRun P sf g o).r cf st vs m fun _ m => (cIdx P sf ops is g).b cf st vs m k⟩
      | none, some d => if Nat.blt d sf.nt then ⟨fun cf st vs m k => (cRun P sf g o).r cf st vs m fun c m => (cIdx P sf ops is (d :: g)).b cf (c :: st) ((lay sf d).w vs c) m k⟩ else ⟨fun _ _ _ _ _ => none⟩
      | some (j, want), none => match (nth ops.toList j).bind (·.dst) with
        | none => ⟨fun _ _ _ _ _ => none⟩
        | some dj => ⟨fun cf st vs m k => (cOpd sf g (.tmp dj)).g st vs fun c => c.onGuard want ((cRun P sf g o).r cf st vs m fun _ m => (cIdx P sf ops is g).b cf st vs m k) ((cIdx P sf ops is g).b cf st vs m k)⟩
      | some (j, want), some d => match (nth ops.toList j).bind (·.dst) with
        | none => ⟨fun _ _ _ _ _ => none⟩
        | some dj => if Nat.blt d sf.nt then ⟨fun cf st vs m k => (cOpd sf g (.tmp dj)).g st vs fun c => c.onGuard want
            ((cRun P sf g o).r cf st vs m fun c m => (cIdx P sf ops is (d :: g)).b cf (c :: st) ((lay sf d).w vs c) m k)
            ((cIdx P sf ops is (d :: g)).b cf (.undef :: st) ((lay sf d).w vs .undef) m k)⟩ else ⟨fun _ _ _ _ _ => none⟩

section
variable {P : Program} {wb : World} {sf : SF} {s : Stat} {f : FuncId} {k0 : C → Mem → R} {r : C × Mem} {items : List Item} {g : List Nat} {ops : Array Oper} {cf : CallF}

theorem Act.put_defers' (a : Act) (d : Option Nat) (v : Value) : (a.put d v).defers = a.defers := by cases d <;> rfl

/-- What one operation comes to. -/
def Does1 (P : Program) (wb : World) (o : Oper) (ε : Ev) (a : Act) (w : World) (c : C) (m' : Mem) : Prop :=
  (∃ ε' v w', ε.le ε' ∧ C.real ε' c = some v ∧ MRel wb ε' m' w' ∧ ((execOp a.eval o).run P w = .ok (.value v) w' ∨ ((execOp a.eval o).run P w = .ok .skip w' ∧ v = Go.undef))) ∨
  (∃ g vals, (execOp a.eval o).run P w = .ok (.enter g vals) w ∧ Calls P g vals w (Ret wb ε c m'))

theorem cRun_ok (hcf : CallOk P wb s cf) {o : Oper} {st : List C} {vs : Tr C} {m : Mem} {k : C → Mem → R} (h : (cRun P sf g o).r cf st vs m k = some r) :
    ∃ c m', k c m' = some r ∧ m'.df = m.df ∧ ∀ ε a w, s.ok ε → SRel sf ε g st vs a → MRel wb ε m w → Does1 P wb o ε a w c m' := by
  unfold cRun at h
  split at h
  · rename_i fn args at_ hop
    obtain ⟨l, h1, h2⟩ := evA_ok h
    obtain ⟨c, m', h3, h4, h5⟩ := hcf _ _ _ _ _ h1
    refine ⟨c, m', h3, h4, fun ε a w hs hS hm => ?_⟩
    have e : (args.toList.map a.eval).toArray = args.map a.eval := by apply Array.ext'; simp
    rcases h5 ε _ w hs (h2 ε a hS) hm with ⟨ε', v, w', d1, d2, d3, d4⟩ | ⟨he, hc⟩
    · rw [e] at d4
      exact .inl ⟨ε', v, w', d1, d2, d3, .inl (by simp [execOp, hop, resolve, Act.eval, Deferred.ofValue, invoke, d4])⟩
    · refine .inr ⟨fn, _, ?_, hc⟩
      have := run_callFunc he (args.map a.eval) w
      simp [execOp, hop, resolve, Act.eval, Deferred.ofValue, invoke, e, this]
  · rename_i x args at_ _ hop
    obtain ⟨u, h1, h2⟩ := cOpd_ok sf g x _ _ _ _ h
    obtain ⟨fn, caps, rfl, h3⟩ := C.onFn_inv h1
    obtain ⟨l, h4, h5⟩ := evA_ok h3
    rw [appR_eq] at h4
    obtain ⟨c, m', h6, h7, h8⟩ := hcf _ _ _ _ _ h4
    refine ⟨c, m', h6, h7, fun ε a w hs hS hm => ?_⟩
    have r1 := h2 ε a hS
    simp only [C.real, Option.map_eq_some_iff] at r1
    obtain ⟨cv, c1, c2⟩ := r1
    have e : (args.toList.map a.eval ++ cv).toArray = args.map a.eval ++ cv.toArray := by apply Array.ext'; simp
    rcases h8 ε _ w hs (reals_append (h5 ε a hS) c1) hm with ⟨ε', v, w', d1, d2, d3, d4⟩ | ⟨he, hc⟩
    · rw [e] at d4
      exact .inl ⟨ε', v, w', d1, d2, d3, .inl (by simp [execOp, hop, resolve, ← c2, Deferred.ofValue, invoke, d4])⟩
    · refine .inr ⟨fn, _, ?_, hc⟩
      have := run_callFunc he (args.map a.eval ++ cv.toArray) w
      rw [e]
      simp [execOp, hop, resolve, ← c2, Deferred.ofValue, invoke, this]
  · obtain ⟨c, m', h1, h2, h3⟩ := cOp_ok P sf g o st vs m k r h
    exact ⟨c, m', h1, h2, fun ε a w _ hS hm => .inl (h3 wb ε a w hS hm)⟩

theorem step_op_ok {b : Frame} {cs : List Frame} {a : Act} {k : List Item} {w w' : World} {i : Nat} {rest : List Nat} {o : Oper} {v : Value}
    (ho : ops[i]? = some o) (hw : Region.wanted o (yielded ops a.tmps) = true) (hr : (execOp a.eval o).run P w = .ok (.value v) w' ∨ ((execOp a.eval o).run P w = .ok .skip w' ∧ v = Go.undef)) :
    step P (lone (b.at a (.inRegion ops (i :: rest) :: k)) cs w) = .next (lone (b.at (a.put o.dst v) (.inRegion ops rest :: k)) cs w') := by
  have hg := stepG_op (P := P) (b := b) (k := k) (cs := cs) (w := w) (rest := rest) ho hw
  have hfin : ∀ v, (b.at a (.inRegion ops (i :: rest) :: k)).finish v = b.at (a.put o.dst v) (.inRegion ops rest :: k) := by
    intro v; rw [Frame.finish_at, ho]; rfl
  refine step_lone_go ?_
  rw [hg, ← hfin]
  rcases hr with hr | ⟨hr, rfl⟩ <;> simp [stepG.apply, hr]

/-- One operation, then the rest of the region. -/
theorem gets_does1 {i : Nat} {rest : List Nat} {o : Oper} {a : Act} {ε : Ev} {w : World} {c : C} {m' : Mem} {R : Ending → World → Prop} (ho : ops[i]? = some o) (hw : Region.wanted o (yielded ops a.tmps) = true) (hd : Does1 P wb o ε a w c m')
    (h : ∀ ε' v w', ε.le ε' → C.real ε' c = some v → MRel wb ε' m' w' → Gets P f (.inRegion ops rest :: items) (a.put o.dst v) w' R) : Gets P f (.inRegion ops (i :: rest) :: items) a w R := by
  rcases hd with ⟨ε', v, w', h1, h2, h3, h4⟩ | ⟨fn, vals, h1, h2⟩
  · exact Gets.step (fun cs => step_op_ok ho hw h4) (h ε' v w' h1 h2 h3)
  · intro cs
    have hg := stepG_op (P := P) (b := base f) (a := a) (k := items) (cs := cs) (w := w) (rest := rest) ho hw
    have hfin : ∀ v, ((base f).at a (.inRegion ops (i :: rest) :: items)).finish v = (base f).at (a.put o.dst v) (.inRegion ops rest :: items) := by
      intro v; rw [Frame.finish_at, ho]; rfl
    have henter : step P (lone ((base f).at a (.inRegion ops (i :: rest) :: items)) cs w) = .next (lone (Frame.enter P fn vals .normal) ((base f).at a (.inRegion ops (i :: rest) :: items) :: cs) w) :=
      step_lone_go (by rw [hg]; simp [stepG.apply, h1, Frame.at])
    obtain ⟨e, w', fr, ⟨v, ε', rfl, h3, h4, h5⟩, hcm, _, hlv⟩ := h2 ((base f).at a (.inRegion ops (i :: rest) :: items) :: cs)
    obtain ⟨e2, w2, fr2, hR, hcm2, hf2, hl2⟩ := h ε' v w' h3 h4 h5 cs
    have hback := step_leave_returned (cs := cs) (c := (base f).at a (.inRegion ops (i :: rest) :: items)) hlv
    rw [hfin] at hback
    exact ⟨e2, w2, fr2, hR, Comes.of_steps (Steps.head henter (Steps.trans hcm (Steps.one hback))) hcm2, hf2, hl2⟩

/-- One operation, where the order is open. -/
theorem wpOp_does1 {i : Nat} {o : Oper} {a : Act} {ε : Ev} {w : World} {c : C} {m' : Mem} {Q : Exit → Act → World → Prop} {K : Act → World → Prop} (ho : ops[i]? = some o) (hw : Region.wanted o (yielded ops a.tmps) = true) (hd : Does1 P wb o ε a w c m')
    (h : ∀ ε' v w', ε.le ε' → C.real ε' c = some v → MRel wb ε' m' w' → K (a.put o.dst v) w') : wpOp P ops Q i K a w := by
  unfold wpOp
  simp only [ho, hw, if_true]
  refine .inl ?_
  unfold Oper.wp
  rcases hd with ⟨ε', v, w', h1, h2, h3, h4 | ⟨h4, rfl⟩⟩ | ⟨fn, vals, h1, h2⟩
  · rw [h4]; exact h ε' v w' h1 h2 h3
  · rw [h4]; exact h ε' _ w' h1 h2 h3
  · rw [h1, Oper.upon_enter]
    exact Calls.mono h2 fun e w' ⟨v, ε', h3, h4, h5, h6⟩ => by subst h3; exact h ε' v w' h4 h5 h6

theorem wanted_of {o : Oper} {j : Nat} {want : Bool} {dj : Nat} {a : Act} {c : C} {ε : Ev} (hg : o.guard = some (j, want)) (hd : (nth ops.toList j).bind (·.dst) = some dj) (hc : C.real ε c = some (a.eval (.tmp dj))) :
    (c = .bool want → Region.wanted o (yielded ops a.tmps) = true) ∧ ((∃ b, c = .bool b ∧ b ≠ want) ∨ c = .undef → Region.wanted o (yielded ops a.tmps) = false) := by
  rw [nth_eq, Array.getElem?_toList] at hd
  have hv : ∀ v, a.eval (.tmp dj) = v → v ≠ Go.undef → a.tmps[dj]? = some v := by
    intro v h hn
    rcases Nat.lt_or_ge dj a.tmps.size with h1 | h1
    · simp [Act.eval, h1] at h; simp [h1, h]
    · simp [Act.eval, Array.getElem?_eq_none h1] at h; exact absurd h.symm hn
  constructor
  · rintro rfl
    simp only [C.real, Option.some.injEq] at hc
    have := hv _ hc.symm (by simp [Go.undef])
    simp [Region.wanted, hg, yielded, hd, this]
  · rintro (⟨b, rfl, hb⟩ | rfl)
    · simp only [C.real, Option.some.injEq] at hc
      have := hv _ hc.symm (by simp [Go.undef])
      simp [Region.wanted, hg, yielded, hd, this, hb]
    · simp only [C.real, Option.some.injEq] at hc
      rcases Nat.lt_or_ge dj a.tmps.size with h1 | h1
      · have h2 : a.tmps[dj]? = some Go.undef := by simp [Act.eval, h1] at hc; simp [h1, ← hc]
        simp [Region.wanted, hg, yielded, hd, h2, Go.undef]
      · simp [Region.wanted, hg, yielded, hd, Array.getElem?_eq_none h1]


theorem cIdx_ok (hcf : CallOk P wb s cf) (h1 : sf.gl = s.gl) (h2 : sf.th = s.th ∧ sf.eq = s.eq) {k : K} (hk : KOk P wb f k0 r sf items k) : ∀ (is : List Nat) (g : List Nat) (st : List C) (vs : Tr C) (m : Mem),
    (cIdx P sf ops is g).b cf st vs m k = some r → Ends P wb f k0 r (FRel wb sf g st vs m) (.inRegion ops is :: items)
  | [], g, st, vs, m, h => by
    obtain ⟨c, m', h3, h4⟩ := hk vs m h
    exact ⟨c, m', h3, fun ε a w hr => Gets.step (fun cs => step_region_end) (h4 ε a w ⟨hr.sl.out, hr.mem, hr.df⟩)⟩
  | i :: is, g, st, vs, m, h => by
    have hs : ∀ {ε a w}, FRel wb sf g st vs m ε a w → s.ok ε := fun hr => ⟨by rw [← h1]; exact hr.sl.gl, by rw [← h2.1]; exact hr.sl.th, by rw [← h2.2]; exact hr.sl.eqs⟩
    unfold cIdx at h
    split at h
    · cases h
    · rename_i o ho
      rw [nth_eq, Array.getElem?_toList] at ho
      have skip : ∀ (d : Option Nat) {a : Act} {w : World} {R : Ending → World → Prop}, o.dst = d → Region.wanted o (yielded ops a.tmps) = false → Gets P f (.inRegion ops is :: items) (a.put d Go.undef) w R → Gets P f (.inRegion ops (i :: is) :: items) a w R := by
        intro d a w R hd hw hG
        refine Gets.step (fun cs => ?_) hG
        have e : (ops[i]?).bind (·.dst) = d := by simp [ho, hd]
        rw [← e]
        exact step_op_skip (by simp [ho, hw])
      split at h
      · rename_i hg hd
        obtain ⟨c, m', h3, h4, h5⟩ := cRun_ok hcf h
        obtain ⟨c2, m2, h6, h7⟩ := cIdx_ok hcf h1 h2 hk is g st vs m' h3
        refine ⟨c2, m2, h6, fun ε a w hr => gets_does1 ho (by simp [Region.wanted, hg]) (h5 ε a w (hs hr) hr.sl hr.mem) fun ε' v w' hle hreal hm' => ?_⟩
        rw [hd]
        exact (h7 ε' a w' ⟨hr.sl.le hle, hm', h4 ▸ hr.df.le hle⟩).mono fun e w => Ret.le hle
      · rename_i d hg hd
        split at h
        · rename_i hlt
          obtain ⟨c, m', h3, h4, h5⟩ := cRun_ok hcf h
          obtain ⟨c2, m2, h6, h7⟩ := cIdx_ok hcf h1 h2 hk is (d :: g) _ _ m' h3
          refine ⟨c2, m2, h6, fun ε a w hr => gets_does1 ho (by simp [Region.wanted, hg]) (h5 ε a w (hs hr) hr.sl hr.mem) fun ε' v w' hle hreal hm' => ?_⟩
          rw [hd]
          exact (h7 ε' _ w' ⟨(hr.sl.le hle).put hlt hreal, hm', by rw [Act.put_defers', h4]; exact hr.df.le hle⟩).mono fun e w => Ret.le hle
        · cases h
      · rename_i j want hg hd
        split at h
        · cases h
        · rename_i dj hdj
          obtain ⟨u, h3, h4⟩ := cOpd_ok sf g (.tmp dj) _ _ _ _ h
          rcases C.onGuard_inv h3 with ⟨e, h5⟩ | ⟨e, h5⟩ | ⟨e, h5⟩
          · obtain ⟨c, m', h6, h7, h8⟩ := cRun_ok hcf h5
            obtain ⟨c2, m2, h9, h10⟩ := cIdx_ok hcf h1 h2 hk is g st vs m' h6
            refine ⟨c2, m2, h9, fun ε a w hr => gets_does1 ho ((wanted_of hg hdj (h4 ε a hr.sl)).1 e) (h8 ε a w (hs hr) hr.sl hr.mem) fun ε' v w' hle hreal hm' => ?_⟩
            rw [hd]
            exact (h10 ε' a w' ⟨hr.sl.le hle, hm', h7 ▸ hr.df.le hle⟩).mono fun e w => Ret.le hle
          · obtain ⟨c2, m2, h9, h10⟩ := cIdx_ok hcf h1 h2 hk is g st vs m h5
            exact ⟨c2, m2, h9, fun ε a w hr => skip none hd ((wanted_of hg hdj (h4 ε a hr.sl)).2 (.inl e)) (h10 ε a w hr)⟩
          · obtain ⟨c2, m2, h9, h10⟩ := cIdx_ok hcf h1 h2 hk is g st vs m h5
            exact ⟨c2, m2, h9, fun ε a w hr => skip none hd ((wanted_of hg hdj (h4 ε a hr.sl)).2 (.inr e)) (h10 ε a w hr)⟩
      · rename_i j want d hg hd
        split at h
        · cases h
        · rename_i dj hdj
          split at h
          · rename_i hlt
            obtain ⟨u, h3, h4⟩ := cOpd_ok sf g (.tmp dj) _ _ _ _ h
            have sk : (cIdx P sf ops is (d :: g)).b cf (.undef :: st) ((lay sf d).w vs .undef) m k = some r → ((∃ b, u = .bool b ∧ b ≠ want) ∨ u = .undef) → Ends P wb f k0 r (FRel wb sf g st vs m) (.inRegion ops (i :: is) :: items) := by
              intro h5 e
              obtain ⟨c2, m2, h9, h10⟩ := cIdx_ok hcf h1 h2 hk is (d :: g) _ _ m h5
              exact ⟨c2, m2, h9, fun ε a w hr => skip (some d) hd ((wanted_of hg hdj (h4 ε a hr.sl)).2 e) (h10 ε _ w ⟨hr.sl.put hlt (c := .undef) rfl, hr.mem, by rw [Act.put_defers']; exact hr.df⟩)⟩
            rcases C.onGuard_inv h3 with ⟨e, h5⟩ | ⟨e, h5⟩ | ⟨e, h5⟩
            · obtain ⟨c, m', h6, h7, h8⟩ := cRun_ok hcf h5
              obtain ⟨c2, m2, h9, h10⟩ := cIdx_ok hcf h1 h2 hk is (d :: g) _ _ m' h6
              refine ⟨c2, m2, h9, fun ε a w hr => gets_does1 ho ((wanted_of hg hdj (h4 ε a hr.sl)).1 e) (h8 ε a w (hs hr) hr.sl hr.mem) fun ε' v w' hle hreal hm' => ?_⟩
              rw [hd]
              exact (h10 ε' _ w' ⟨(hr.sl.le hle).put hlt hreal, hm', by rw [Act.put_defers', h7]; exact hr.df.le hle⟩).mono fun e w => Ret.le hle
            · exact sk h5 (.inl e)
            · exact sk h5 (.inr e)
          · cases h

end

end Go.Proofs.YtoihipolfdhhnaaGreatDoor.Vm
