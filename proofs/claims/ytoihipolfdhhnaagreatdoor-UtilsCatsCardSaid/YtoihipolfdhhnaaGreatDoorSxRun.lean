/-
  The symbolic executor's run over a frame's items; what it comes to is what the model comes to; calls by contracts; the end of a frame.
-/
import Derived.Test.YtoihipolfdhhnaaGreatDoorSxOps3
import Derived.Scope
namespace Go.Proofs.YtoihipolfdhhnaaGreatDoor

def wantedX (o : Oper) (ops : Array Oper) (σ : St) : Option Bool :=
  match o.guard with
  | none => some true
  | some (j, want) => match (ops[j]?).bind (·.dst) with
    | some d => match lk d σ.tl with
      | some (.e (.c (.bool b))) => some (b == want)
      | some _ => some false
      | none => none
    | none => some false

def putX (nt : Nat) (dst : Option Nat) (v : SV) (σ : St) : Option St :=
  match dst with
  | none => some σ
  | some d => if d < nt then some { σ with tl := (d, v) :: σ.tl } else none

def undefX : SV := .e (.c .undef)

def step1 (T : TypeId → Option TI) (nt : Nat) : List Item → St → Option (List Item × St)
  | .code .skip :: k, σ => some (k, σ)
  | .code (.label _) :: k, σ => some (k, σ)
  | .inBlock _ :: k, σ => some (k, σ)
  | .inScope _ :: k, σ => some (k, σ)
  | .code (.seq x y) :: k, σ => some (.code x :: .code y :: k, σ)
  | .code (.cond c x y) :: k, σ => match evC σ c with
    | some (.bool b) => some (.code (if b then x else y) :: k, σ)
    | _ => none
  | .code (.block id c) :: k, σ => some (.code c :: .inBlock id :: k, σ)
  | .code (.scope c) :: k, σ => some (.code c :: .inScope c :: k, σ)
  | .code (.exit id) :: k, σ => (exitTo id k).map fun k' => (k', σ)
  | .code (.region _ ops false) :: k, σ => some (.inRegion ops (List.range ops.size) :: k, σ)
  | .inRegion _ [] :: k, σ => some (k, σ)
  | .inRegion ops (i :: rest) :: k, σ => match ops[i]? with
    | none => none
    | some o => match wantedX o ops σ with
      | none => none
      | some false => (putX nt o.dst undefX σ).map fun σ' => (.inRegion ops rest :: k, σ')
      | some true => match xop T o σ with
        | none => none
        | some (r, σ') => (putX nt o.dst (r.getD undefX) σ').map fun σ'' => (.inRegion ops rest :: k, σ'')
  | _, _ => none

def run (T : TypeId → Option TI) (nt : Nat) : Nat → List Item → St → List Item × St
  | 0, k, σ => (k, σ)
  | n + 1, k, σ => match step1 T nt k σ with
    | some (k', σ') => run T nt n k' σ'
    | none => (k, σ)

structure CRel (ε : Env) (nt : Nat) (σ : St) (a : Act) (w : World) : Prop where
  tl : TRel ε.ρ σ.tl a.tmps
  size : a.tmps.size = nt
  defers : a.defers = []
  mem : Rel ε σ.bs w

theorem wantedX_ok {ρ : Nat → Nat} {o : Oper} {ops : Array Oper} {σ : St} {tmps : Array Value} {b : Bool} (h : wantedX o ops σ = some b) (htl : TRel ρ σ.tl tmps) :
    Region.wanted o (yielded ops tmps) = b := by
  unfold wantedX at h
  unfold Region.wanted
  split at h
  · rename_i hg; cases h; rw [hg]
  · rename_i j want hg
    rw [hg]
    simp only
    split at h
    · rename_i d hd
      split at h
      · rename_i t hl
        cases h
        have := htl d _ hl
        simp only [yielded, hd, Option.bind_some, this, SV.real, E.real, C.real]
        cases t <;> cases want <;> rfl
      · rename_i v hv hl
        cases h
        have h2 := htl d _ hl
        have hy : yielded ops tmps j = none := by
          simp only [yielded, hd, Option.bind_some, h2]
          split
          · rename_i b' hb
            exfalso
            simp only [Option.some.injEq] at hb
            cases v with
            | e x => cases x with
              | c y => cases y <;> simp_all [SV.real, E.real, C.real, undef]
              | a l => simp [SV.real, E.real] at hb
            | t l => simp [SV.real] at hb
          · rfl
        rw [hy]; rfl
      · cases h
    · rename_i hd
      cases h
      simp only [yielded, hd, Option.bind_none]
      rfl

theorem putX_ok {ε : Env} {nt : Nat} {dst : Option Nat} {v : SV} {σ σ' : St} {a : Act} {w : World} (h : putX nt dst v σ = some σ') (hc : CRel ε nt σ a w) :
    CRel ε nt σ' (a.put dst (v.real ε.ρ)) w ∧ σ'.ob = σ.ob := by
  unfold putX at h
  split at h
  · cases h; exact ⟨hc, rfl⟩
  · rename_i d
    split at h
    · rename_i hd
      cases h
      refine ⟨⟨TRel.put hc.tl d (by rw [hc.size]; exact hd) v, by simp [Act.put, hc.size], hc.defers, hc.mem⟩, rfl⟩
    · cases h

theorem putX_ob {nt : Nat} {dst : Option Nat} {v : SV} {σ σ' : St} (h : putX nt dst v σ = some σ') : σ'.ob = σ.ob := by
  unfold putX at h
  split at h
  · cases h; rfl
  · split at h
    · cases h; rfl
    · cases h

theorem step_op_ok {P : Program} {b : Frame} {a : Act} {k : List Item} {cs : List Frame} {w w' : World} {ops : Array Oper} {i : Nat} {rest : List Nat} {o : Oper} {r : Option Value}
    (ho : ops[i]? = some o) (hw : Region.wanted o (yielded ops a.tmps) = true) (hr : (execOp a.eval o).run P w = .ok (match r with | some v => .value v | none => .skip) w') :
    step P (lone (b.at a (.inRegion ops (i :: rest) :: k)) cs w) = .next (lone (b.at (a.put o.dst (r.getD undef)) (.inRegion ops rest :: k)) cs w') := by
  have hg := stepG_op (P := P) (b := b) (k := k) (cs := cs) (w := w) (rest := rest) ho hw
  have hfin : ∀ v, (b.at a (.inRegion ops (i :: rest) :: k)).finish v = b.at (a.put o.dst v) (.inRegion ops rest :: k) := by
    intro v; rw [Frame.finish_at, ho]; rfl
  refine step_lone_go ?_
  rw [hg, ← hfin]
  cases r <;> simp [stepG.apply, hr]

theorem step1_ok {P : Program} {T : TypeId → Option TI} (hT : Tabs P T) {ε : Env} {nt : Nat} {k k' : List Item} {σ σ' : St} {a : Act} {w : World} {b : Frame} {cs : List Frame}
    (h : step1 T nt k σ = some (k', σ')) (hc : CRel ε nt σ a w) (hob : σ'.holds ε) :
    ∃ a' w', CRel ε nt σ' a' w' ∧ Steps P (lone (b.at a k) cs w) (lone (b.at a' k') cs w') := by
  unfold step1 at h
  split at h
  · cases h; exact ⟨a, w, hc, .one step_skip⟩
  · cases h; exact ⟨a, w, hc, .one step_label⟩
  · cases h; exact ⟨a, w, hc, .one step_inBlock⟩
  · cases h; exact ⟨a, w, hc, .one step_inScope⟩
  · cases h; exact ⟨a, w, hc, .one step_seq⟩
  · split at h
    · rename_i t ht
      cases h
      exact ⟨a, w, hc, .one (step_cond (evC_ok hc.tl ht))⟩
    · cases h
  · cases h; exact ⟨a, w, hc, .one step_block⟩
  · cases h; exact ⟨a, w, hc, .one step_scope⟩
  · rename_i id k0
    cases he : exitTo id k0 with
    | none => simp [he] at h
    | some k1 =>
      simp only [he, Option.map_some, Option.some.injEq, Prod.mk.injEq] at h
      obtain ⟨rfl, rfl⟩ := h
      exact ⟨a, w, hc, .one (step_exit he)⟩
  · cases h; exact ⟨a, w, hc, .one step_region⟩
  · cases h; exact ⟨a, w, hc, .one step_region_end⟩
  · rename_i ops i rest k0
    split at h
    · cases h
    · rename_i o ho
      split at h
      · cases h
      · rename_i hw
        have hw' := wantedX_ok hw hc.tl
        cases hp : putX nt o.dst undefX σ with
        | none => simp [hp] at h
        | some σ1 =>
          simp only [hp, Option.map_some, Option.some.injEq, Prod.mk.injEq] at h
          obtain ⟨rfl, rfl⟩ := h
          obtain ⟨h1, h2⟩ := putX_ok hp hc
          refine ⟨_, w, h1, .one ?_⟩
          have := step_op_skip (P := P) (b := b) (a := a) (k := k0) (cs := cs) (w := w) (ops := ops) (i := i) (rest := rest) (by simp [ho, hw'])
          have hu : (undefX).real ε.ρ = undef := rfl
          rw [hu]
          simpa [ho] using this
      · rename_i hw
        have hw' := wantedX_ok hw hc.tl
        split at h
        · cases h
        · rename_i r σ1 hx
          cases hp : putX nt o.dst (r.getD undefX) σ1 with
          | none => simp [hp] at h
          | some σ2 =>
            simp only [hp, Option.map_some, Option.some.injEq, Prod.mk.injEq] at h
            obtain ⟨rfl, rfl⟩ := h
            have hob1 : σ1.holds ε := by
              intro p hp'
              exact hob p (by rw [putX_ob hp]; exact hp')
            obtain ⟨htl, w', hrel, hrun⟩ := xop_ok hT hx hc.tl hc.mem hob1
            have hc1 : CRel ε nt σ1 a w' := ⟨by rw [htl]; exact hc.tl, hc.size, hc.defers, hrel⟩
            obtain ⟨h1, h2⟩ := putX_ok hp hc1
            refine ⟨_, w', h1, .one ?_⟩
            have hst := step_op_ok (P := P) (b := b) (k := k0) (cs := cs) (rest := rest) (r := r.map (SV.real ε.ρ)) ho hw' (by rw [hrun]; cases r <;> rfl)
            have hv : (r.map (SV.real ε.ρ)).getD undef = (r.getD undefX).real ε.ρ := by cases r <;> rfl
            rw [hv] at hst
            exact hst
  · cases h

theorem ask_ob {t : Bool} {σ σ' : St} {r : Option SV} (h : ask t σ = some (r, σ')) {p : Env → Prop} (hp : p ∈ σ.ob) : p ∈ σ'.ob := by
  unfold ask at h
  split at h
  · cases h; simp [hp]
  · cases h

theorem xLoad_ob {T : TypeId → Option TI} {t : TypeId} {x : Operand} {σ σ' : St} {r : Option SV} (h : xLoad T t x σ = some (r, σ')) {p : Env → Prop} (hp : p ∈ σ.ob) : p ∈ σ'.ob := by
  unfold xLoad at h
  repeat' split at h
  all_goals first | (cases h; done) | (cases h; simp [hp])

theorem xStore_ob {T : TypeId → Option TI} {t : TypeId} {x y : Operand} {σ σ' : St} {r : Option SV} (h : xStore T t x y σ = some (r, σ')) {p : Env → Prop} (hp : p ∈ σ.ob) : p ∈ σ'.ob := by
  unfold xStore at h
  repeat' split at h
  all_goals first | (cases h; done) | (cases h; simp [hp])

theorem xBin_ob {T : TypeId → Option TI} {op : BinOp} {t : TypeId} {x y : Operand} {σ σ' : St} {r : Option SV} (h : xBin T op t x y σ = some (r, σ')) {p : Env → Prop} (hp : p ∈ σ.ob) : p ∈ σ'.ob := by
  unfold xBin at h
  repeat' split at h
  all_goals first | (cases h; done) | exact ask_ob h hp | (cases h; simp [hp])

theorem xSlice_ob {T : TypeId → Option TI} {t : TypeId} {x : Operand} {lo hi : Option Operand} {σ σ' : St} {r : Option SV} (h : xSlice T t x lo hi σ = some (r, σ')) {p : Env → Prop} (hp : p ∈ σ.ob) : p ∈ σ'.ob := by
  unfold xSlice at h
  repeat' split at h
  all_goals first | (cases h; done) | (cases h; simp [hp])

theorem xAt_ob {T : TypeId → Option TI} {t : TypeId} {x i : Operand} {σ σ' : St} {r : Option SV} (h : xAt T t x i σ = some (r, σ')) {p : Env → Prop} (hp : p ∈ σ.ob) : p ∈ σ'.ob := by
  unfold xAt at h
  repeat' split at h
  all_goals first | (cases h; done) | (cases h; simp [hp])

theorem xByte_ob {T : TypeId → Option TI} {t : TypeId} {x i : Operand} {σ σ' : St} {r : Option SV} (h : xByte T t x i σ = some (r, σ')) {p : Env → Prop} (hp : p ∈ σ.ob) : p ∈ σ'.ob := by
  unfold xByte at h
  repeat' split at h
  all_goals first | (cases h; done) | (cases h; simp [hp])

theorem map_pair_ob {α : Type} {z : Option α} {g : α → Option SV × St} {σ σ' : St} {r : Option SV} (hg : ∀ v, (g v).2 = σ) (h : z.map g = some (r, σ')) {p : Env → Prop} (hp : p ∈ σ.ob) : p ∈ σ'.ob := by
  cases z with
  | none => cases h
  | some v =>
    simp only [Option.map_some, Option.some.injEq] at h
    have := hg v
    rw [h] at this
    simp only at this
    rw [this]; exact hp

theorem xop_ob {T : TypeId → Option TI} {o : Oper} {σ σ' : St} {r : Option SV} (h : xop T o σ = some (r, σ')) {p : Env → Prop} (hp : p ∈ σ.ob) : p ∈ σ'.ob := by
  unfold xop at h
  split at h
  · exact map_pair_ob (σ := σ) (fun _ => rfl) h hp
  · exact map_pair_ob (σ := σ) (fun _ => rfl) h hp
  · split at h
    · exact map_pair_ob (σ := σ) (fun _ => rfl) h hp
    · cases h
  · unfold xAlloc at h
    split at h
    · cases h; exact hp
    · cases h
  · unfold xBox at h
    repeat' split at h
    all_goals first | (cases h; done) | (cases h; exact hp)
  · unfold xBuild at h
    repeat' split at h
    all_goals first | (cases h; done) | (cases h; exact hp)
  · unfold xBuildSlice at h
    repeat' split at h
    all_goals first | (cases h; done) | (cases h; exact hp)
  · exact xLoad_ob h hp
  · exact xStore_ob h hp
  · unfold xNil at h
    repeat' split at h
    all_goals first | (cases h; done) | (cases h; exact hp)
  · exact xBin_ob h hp
  · split at h
    · cases h; exact hp
    · cases h
  · split at h
    · cases h; exact hp
    · cases h
  · split at h
    · cases h; exact hp
    · cases h
  · exact map_pair_ob (σ := σ) (fun _ => rfl) h hp
  · exact xSlice_ob h hp
  · unfold xField at h
    repeat' split at h
    all_goals first | (cases h; done) | (cases h; exact hp)
  · unfold xPart at h
    repeat' split at h
    all_goals first | (cases h; done) | (cases h; exact hp)
  · exact xAt_ob h hp
  · exact xByte_ob h hp
  · split at h
    · exact map_pair_ob (σ := σ) (fun _ => rfl) h hp
    · cases h
  · unfold xLen at h
    repeat' split at h
    all_goals first | (cases h; done) | (cases h; exact hp)
  · split at h
    · cases h; exact hp
    · cases h
  · split at h
    · cases h; exact hp
    · cases h
  · cases h

theorem step1_ob {T : TypeId → Option TI} {nt : Nat} {k k' : List Item} {σ σ' : St} (h : step1 T nt k σ = some (k', σ')) {p : Env → Prop} (hp : p ∈ σ.ob) : p ∈ σ'.ob := by
  unfold step1 at h
  split at h
  · cases h; exact hp
  · cases h; exact hp
  · cases h; exact hp
  · cases h; exact hp
  · cases h; exact hp
  · split at h
    · cases h; exact hp
    · cases h
  · cases h; exact hp
  · cases h; exact hp
  · rename_i id k0
    cases he : exitTo id k0 with
    | none => simp [he] at h
    | some k1 => simp only [he, Option.map_some, Option.some.injEq, Prod.mk.injEq] at h; obtain ⟨rfl, rfl⟩ := h; exact hp
  · cases h; exact hp
  · cases h; exact hp
  · split at h
    · cases h
    · rename_i o ho
      split at h
      · cases h
      · cases hp' : putX nt o.dst undefX σ with
        | none => simp [hp'] at h
        | some σ1 =>
          simp only [hp', Option.map_some, Option.some.injEq, Prod.mk.injEq] at h
          obtain ⟨rfl, rfl⟩ := h
          rw [putX_ob hp']; exact hp
      · split at h
        · cases h
        · rename_i r σ1 hx
          cases hp' : putX nt o.dst (r.getD undefX) σ1 with
          | none => simp [hp'] at h
          | some σ2 =>
            simp only [hp', Option.map_some, Option.some.injEq, Prod.mk.injEq] at h
            obtain ⟨rfl, rfl⟩ := h
            rw [putX_ob hp']
            exact xop_ob hx hp
  · cases h

theorem run_ob {T : TypeId → Option TI} {nt : Nat} : ∀ (m : Nat) (k : List Item) (σ : St), ∀ p ∈ σ.ob, p ∈ (run T nt m k σ).2.ob
  | 0, _, _, _, h => h
  | m + 1, k, σ, p, hp => by
    simp only [run]
    cases hs : step1 T nt k σ with
    | none => exact hp
    | some x => exact run_ob m x.1 x.2 p (step1_ob hs hp)

theorem run_ok {P : Program} {T : TypeId → Option TI} (hT : Tabs P T) {ε : Env} {nt : Nat} {b : Frame} {cs : List Frame} : ∀ (n : Nat) (k : List Item) (σ : St) (a : Act) (w : World),
    CRel ε nt σ a w → (run T nt n k σ).2.holds ε →
    ∃ a' w', CRel ε nt (run T nt n k σ).2 a' w' ∧ Steps P (lone (b.at a k) cs w) (lone (b.at a' (run T nt n k σ).1) cs w')
  | 0, k, σ, a, w, hc, _ => ⟨a, w, hc, .refl _ _⟩
  | n + 1, k, σ, a, w, hc, hob => by
    simp only [run] at hob ⊢
    cases hs : step1 T nt k σ with
    | none => exact ⟨a, w, hc, .refl _ _⟩
    | some x =>
      simp only [hs] at hob
      have hob1 : x.2.holds ε := fun p hp => hob p (run_ob n x.1 x.2 p hp)
      obtain ⟨a1, w1, hc1, hst⟩ := step1_ok (P := P) hT (b := b) (cs := cs) hs hc hob1
      obtain ⟨a2, w2, hc2, hst2⟩ := run_ok hT n x.1 x.2 a1 w1 hc1 hob
      exact ⟨a2, w2, hc2, hst.trans hst2⟩

/- CALLS, THE END -/

def base (f : FuncId) : Frame := { (default : Frame) with fn := f, kind := .normal }

/-- From here the frame of function f comes to R. -/
def Gets (P : Program) (f : FuncId) (k : List Item) (a : Act) (w : World) (R : Ending → World → Prop) : Prop :=
  ∀ cs, ∃ e w' fr, R e w' ∧ Comes P (lone ((base f).at a k) cs w) (lone fr cs w') e ∧ fr.fn = f ∧ fr.leaving P w' e

theorem Gets.of_steps {P : Program} {f : FuncId} {k k' : List Item} {a a' : Act} {w w' : World} {R : Ending → World → Prop}
    (h : ∀ cs, Steps P (lone ((base f).at a k) cs w) (lone ((base f).at a' k') cs w')) (hg : Gets P f k' a' w' R) : Gets P f k a w R :=
  fun cs => let ⟨e, w'', fr, hR, hc, hf, hl⟩ := hg cs; ⟨e, w'', fr, hR, Comes.of_steps (h cs) hc, hf, hl⟩

theorem calls_of_gets {P : Program} {f : FuncId} {fn : Func} {c : Code} {args : Array Value} {w : World} {R : Ending → World → Prop}
    (hf : P.funcs[f]? = some fn) (hb : fn.body = some c)
    (h : Gets P f [.code c] { tmps := args ++ Array.replicate (fn.ntmps - args.size) undef, defers := [] } w R) : Calls P f args w R := by
  intro cs
  have henter : Frame.enter P f args .normal = (base f).at { tmps := args ++ Array.replicate (fn.ntmps - args.size) undef, defers := [] } [.code c] := by
    simp [Frame.enter, Frame.at, hf, hb, base]
  rw [henter]
  exact h cs

theorem gets_run {P : Program} {T : TypeId → Option TI} (hT : Tabs P T) {ε : Env} {nt : Nat} {f : FuncId} {k : List Item} {σ : St} {a : Act} {w : World} {R : Ending → World → Prop} (n : Nat)
    (hc : CRel ε nt σ a w) (hob : (run T nt n k σ).2.holds ε) (h : ∀ a' w', CRel ε nt (run T nt n k σ).2 a' w' → Gets P f (run T nt n k σ).1 a' w' R) : Gets P f k a w R := by
  intro cs
  obtain ⟨a', w', hc', hst⟩ := run_ok (P := P) hT (b := base f) (cs := cs) n k σ a w hc hob
  obtain ⟨e, w'', fr, hR, hcm, hf, hl⟩ := h a' w' hc' cs
  exact ⟨e, w'', fr, hR, Comes.of_steps hst hcm, hf, hl⟩

def isFin : List Item → Bool
  | [] => true
  | .code .ret :: _ => true
  | _ => false

def resX (T : TypeId → Option TI) (σ : St) : ResultVar → Option E
  | .tmp t => match lk t σ.tl with
    | some (.e v) => some v
    | _ => none
  | .cell s t => match lk s σ.tl, T t with
    | some (.e (.c (.p b o))), some i => match σ.bs[b]? with
      | some nb => if i.agg then if o + i.size ≤ nb.cs.length then some (.a ((nb.cs.drop o).take i.size)) else none
        else (nb.cs[o]?).map .c
      | none => none
    | _, _ => none

def resXs (T : TypeId → Option TI) (σ : St) : List ResultVar → Option (List E)
  | [] => some []
  | x :: l => match resX T σ x, resXs T σ l with
    | some v, some r => some (v :: r)
    | _, _ => none

def retX : List E → SV
  | [x] => .e x
  | l => .t l

def resSem (tmps : Array Value) : ResultVar → Sem Value
  | .tmp t => pure (tmps.getD t undef)
  | .cell s t => do loadVar t (← asAddr (tmps.getD s undef))

theorem resX_ok {P : Program} {T : TypeId → Option TI} (hT : Tabs P T) {ε : Env} {nt : Nat} {σ : St} {a : Act} {w : World} (hc : CRel ε nt σ a w) {x : ResultVar} {v : E} (h : resX T σ x = some v) :
    (resSem a.tmps x).run P w = .ok (v.real ε.ρ) w := by
  cases x with
  | tmp t =>
    simp only [resX] at h
    split at h
    · rename_i y hy
      cases h
      have := hc.tl t _ hy
      simp [resSem, this, SV.real]
    · cases h
  | cell s t =>
    simp only [resX] at h
    split at h
    · rename_i b o i hs hi
      have h1 := hc.tl s _ hs
      have hok := hT t i hi
      split at h
      · rename_i nb hb
        split at h
        · rename_i hag
          split at h
          · rename_i hsz
            cases h
            have hl := run_loadCells_list (P := P) w ⟨ε.ρ b, o, none⟩ (((nb.cs.drop o).take i.size).map (C.real ε.ρ)) (fun j v hj => by
              rw [addr_add, hc.mem.sees.cell? hb]
              rw [List.getElem?_map] at hj
              have hjl : j < i.size := by
                rcases Nat.lt_or_ge j i.size with h2 | h2
                · exact h2
                · rw [List.getElem?_eq_none (by simp; omega)] at hj; cases hj
              rw [take_drop_get _ _ _ _ hjl] at hj
              exact hj)
            have hlen : (((nb.cs.drop o).take i.size).map (C.real ε.ρ)).length = i.size := by simp; omega
            rw [hlen] at hl
            simp [resSem, h1, SV.real, E.real, C.real, asAddr, loadVar, run_isAgg' hok, hag, run_sizeOf' hok, hl]
          · cases h
        · rename_i hag
          cases hg : nb.cs[o]? with
          | none => simp [hg] at h
          | some c =>
            simp only [hg, Option.map_some, Option.some.injEq] at h
            subst h
            have := hc.mem.sees.cell? hb o
            rw [hg] at this
            simp [resSem, h1, SV.real, E.real, C.real, asAddr, loadVar, run_isAgg' hok, hag, this]
      · cases h
    · cases h

theorem resXs_ok {P : Program} {T : TypeId → Option TI} (hT : Tabs P T) {ε : Env} {nt : Nat} {σ : St} {a : Act} {w : World} (hc : CRel ε nt σ a w) {fn : Func} {l : List E}
    (h : resXs T σ fn.results.toList = some l) : (results fn a.tmps).run P w = .ok ((retX l).real ε.ρ) w := by
  have hl : ∀ (rs : List ResultVar) (l : List E), resXs T σ rs = some l → (rs.mapM (resSem a.tmps)).run P w = .ok (l.map (E.real ε.ρ)) w := by
    intro rs
    induction rs with
    | nil => intro l h; simp only [resXs, Option.some.injEq] at h; subst h; simp
    | cons x rs ih =>
      intro l h
      unfold resXs at h
      split at h
      · rename_i v r hv hr
        cases h
        rw [List.mapM_cons]
        have h1 := resX_ok (P := P) hT hc hv
        have h2 := ih r hr
        rw [Sem.run_bind, h1, Result.andThen_ok, Sem.run_bind, h2, Result.andThen_ok]
        rfl
      · cases h
  have := hl _ _ h
  have hres : results fn a.tmps = (do let vs ← fn.results.mapM (resSem a.tmps); pure (if h : vs.size = 1 then vs[0] else .tuple vs)) := rfl
  rw [hres, Array.mapM_eq_mapM_toList]
  simp only [Sem.run_bind, Sem.run_map, this, Result.andThen_ok, Sem.run_pure]
  congr 1
  match l with
  | [] => rfl
  | [x] => rfl
  | x :: y :: l => simp [retX, SV.real]

theorem gets_fin {P : Program} {T : TypeId → Option TI} (hT : Tabs P T) {ε : Env} {nt : Nat} {f : FuncId} {fn : Func} {k : List Item} {σ : St} {a : Act} {w : World} {R : Ending → World → Prop} {l : List E}
    (hc : CRel ε nt σ a w) (hf : P.funcs[f]? = some fn) (hk : isFin k = true) (hr : resXs T σ fn.results.toList = some l) (hR : R (.returned ((retX l).real ε.ρ)) w) : Gets P f k a w R := by
  intro cs
  have hres := resXs_ok (P := P) hT hc hr
  unfold isFin at hk
  split at hk
  · exact ⟨_, w, _, hR, Steps.one step_end, rfl, rfl, hc.defers, rfl, fn, hf, hres⟩
  · exact ⟨_, w, _, hR, Steps.one step_ret, rfl, rfl, hc.defers, rfl, fn, hf, hres⟩
  · cases hk

/-- The call that stands next. -/
structure CallX where
  fn : FuncId
  args : List E
  caps : List PP
  capv : Array Value

def CallX.real (ρ : Nat → Nat) (c : CallX) : Array Value := (c.args.map (E.real ρ)).toArray ++ ((c.caps.map (PP.real ρ)).toArray ++ c.capv)

def evArgs (σ : St) : List Operand → Option (List E)
  | [] => some []
  | x :: l => match evE σ x, evArgs σ l with
    | some v, some r => some (v :: r)
    | _, _ => none

theorem evArgs_ok {ρ : Nat → Nat} {σ : St} {a : Act} (h : TRel ρ σ.tl a.tmps) : ∀ {l : List Operand} {r : List E}, evArgs σ l = some r → l.map a.eval = r.map (E.real ρ)
  | [], r, hr => by simp only [evArgs, Option.some.injEq] at hr; subst hr; rfl
  | x :: l, r, hr => by
    unfold evArgs at hr
    split at hr
    · rename_i v l' hv hl
      cases hr
      simp only [List.map_cons, evArgs_ok h hl, evE_ok h hv]
    · cases hr

def callX (k : List Item) (σ : St) : Option CallX :=
  match k with
  | .inRegion ops (i :: _) :: _ => match ops[i]? with
    | some ⟨_, .call ⟨.value g, args, _⟩, _, _, _, gd⟩ => match wantedX ⟨none, .move g, 0, default, #[], gd⟩ ops σ, evC σ g, evArgs σ args.toList with
      | some true, some (.f fn caps), some l => some ⟨fn, l, caps, #[]⟩
      | some true, some (.fv fn capv), some l => some ⟨fn, l, [], capv⟩
      | _, _, _ => none
    | _ => none
  | _ => none

def popX : List Item → List Item
  | .inRegion ops (_ :: rest) :: k => .inRegion ops rest :: k
  | k => k

def dstX : List Item → Option Nat
  | .inRegion ops (i :: _) :: _ => (ops[i]?).bind (·.dst)
  | _ => none

def enters (P : Program) (g : FuncId) : Bool :=
  match P.funcs[g]? with
  | some fn => !(fn.name == "runtime.NumGoroutine") && fn.body.isSome
  | none => false

theorem wanted_guard (o o' : Oper) (y : Nat → Option Bool) (h : o.guard = o'.guard) : Region.wanted o y = Region.wanted o' y := by
  unfold Region.wanted; rw [h]

theorem run_callFunc {P : Program} {g : FuncId} (h : enters P g = true) (args : Array Value) (w : World) : (callFunc g args).run P w = .ok (.enter g args) w := by
  unfold enters at h
  split at h
  · rename_i fn hf
    simp only [Bool.and_eq_true, Bool.not_eq_true'] at h
    have hb : fn.body.isNone = false := by cases hb : fn.body <;> simp_all
    simp only [callFunc, Sem.run_bind, run_program, Result.andThen_ok, hf, h.1, Bool.false_eq_true, if_false, hb, Sem.run_pure]
  · cases h

theorem gets_call {P : Program} {ε : Env} {nt : Nat} {f : FuncId} {k : List Item} {σ : St} {a : Act} {w : World} {R S : Ending → World → Prop} {c : CallX}
    (hc : CRel ε nt σ a w) (hx : callX k σ = some c) (he : enters P c.fn = true) (hcall : Calls P c.fn (c.real ε.ρ) w S)
    (h : ∀ e w', S e w' → ∃ v, e = .returned v ∧ Gets P f (popX k) (a.put (dstX k) v) w' R) : Gets P f k a w R := by
  intro cs
  unfold callX at hx
  split at hx
  · rename_i ops i rest k0
    split at hx
    · rename_i dst g args at0 ty pos after gd ho
      have key : ∀ (fn : FuncId) (capv : Array Value) (l : List E), wantedX ⟨none, .move g, 0, default, #[], gd⟩ ops σ = some true → a.eval g = .func (.func fn) #[] capv → evArgs σ args.toList = some l →
          c.fn = fn → c.real ε.ρ = (l.map (E.real ε.ρ)).toArray ++ capv →
          ∃ e w' fr, R e w' ∧ Comes P (lone ((base f).at a (.inRegion ops (i :: rest) :: k0)) cs w) (lone fr cs w') e ∧ fr.fn = f ∧ fr.leaving P w' e := by
        intro fn capv l hw hg hl hfn hreal
        have hw' : Region.wanted ⟨dst, .call ⟨.value g, args, at0⟩, ty, pos, after, gd⟩ (yielded ops a.tmps) = true := wantedX_ok hw hc.tl
        have hargs : args.map a.eval = (l.map (E.real ε.ρ)).toArray := by apply Array.ext'; simpa using evArgs_ok hc.tl hl
        have hrun : (execOp a.eval ⟨dst, .call ⟨.value g, args, at0⟩, ty, pos, after, gd⟩).run P w = .ok (.enter fn (c.real ε.ρ)) w := by
          have := run_callFunc (hfn ▸ he) ((l.map (E.real ε.ρ)).toArray ++ capv) w
          simp only [execOp, resolve, hg, hargs, Deferred.ofValue, Sem.run_bind, Sem.run_pure, Result.andThen_ok, invoke, Array.empty_append, this, hreal]
        have hgop := stepG_op (P := P) (b := base f) (a := a) (k := k0) (cs := cs) (w := w) (rest := rest) ho hw'
        have hfin : ∀ v, ((base f).at a (.inRegion ops (i :: rest) :: k0)).finish v = (base f).at (a.put dst v) (.inRegion ops rest :: k0) := by
          intro v; rw [Frame.finish_at, ho]; rfl
        have henter : step P (lone ((base f).at a (.inRegion ops (i :: rest) :: k0)) cs w) = .next (lone (Frame.enter P fn (c.real ε.ρ) .normal) ((base f).at a (.inRegion ops (i :: rest) :: k0) :: cs) w) :=
          step_lone_go (by rw [hgop]; simp [stepG.apply, hrun, Frame.at])
        obtain ⟨e, w', fr, hS, hcm, _, hlv⟩ := hcall ((base f).at a (.inRegion ops (i :: rest) :: k0) :: cs)
        obtain ⟨v, rfl, hg'⟩ := h e w' hS
        have hd : dstX (.inRegion ops (i :: rest) :: k0) = dst := by simp [dstX, ho]
        rw [hd] at hg'
        obtain ⟨e2, w2, fr2, hR, hcm2, hf2, hl2⟩ := hg' cs
        have hback := step_leave_returned (cs := cs) (c := (base f).at a (.inRegion ops (i :: rest) :: k0)) hlv
        rw [hfin] at hback
        rw [hfn] at hcm
        exact ⟨e2, w2, fr2, hR, Comes.of_steps (Steps.head henter (Steps.trans hcm (Steps.one hback))) hcm2, hf2, hl2⟩
      split at hx
      · rename_i fn caps l hw hg hl
        cases hx
        exact key fn _ l hw (evC_ok hc.tl hg) hl rfl (by simp [CallX.real])
      · rename_i fn capv l hw hg hl
        cases hx
        exact key fn _ l hw (evC_ok hc.tl hg) hl rfl (by simp [CallX.real])
      · cases hx
    · cases hx
  · cases hx

end Go.Proofs.YtoihipolfdhhnaaGreatDoor
