/-
  Vm, last part: functions, their calls; a whole run is a run of the model.
-/
import Derived.Test.YtoihipolfdhhnaaGreatDoorVL2
namespace Go.Proofs.YtoihipolfdhhnaaGreatDoor.Vm

/- WHICH SLOTS LIVE ACROSS REGIONS -/

def tmpsOf (l : List Operand) : List Nat := l.filterMap fun
  | .tmp t => some t
  | _ => none

def addTo (l : List Nat) (x : Nat) : List Nat := if l.elem x then l else x :: l

/-- Slots that the operations read, but for those that earlier ones of the region laid. -/
def readsOf (ops : Array Oper) : List Oper → List Nat → List Nat → List Nat
  | [], _, acc => acc
  | o :: l, seen, acc =>
    let gs := match o.guard with
      | some (j, _) => ((ops[j]?).bind (·.dst)).toList
      | none => []
    let need := (gs ++ tmpsOf o.op.operands.toList).filter fun t => !seen.elem t
    readsOf ops l (o.dst.toList ++ seen) (need.foldl addTo acc)

def crossOf : Code → List Nat → List Nat
  | .region _ ops _, acc => readsOf ops ops.toList [] acc
  | .seq a b, acc => crossOf b (crossOf a acc)
  | .cond c a b, acc => crossOf b (crossOf a ((tmpsOf [c]).foldl addTo acc))
  | .block _ a, acc => crossOf a acc
  | .loop a, acc => crossOf a acc
  | .scope a, acc => crossOf a acc
  | .rangeFunc f _ a b, acc => crossOf b (crossOf a ((tmpsOf [f]).foldl addTo acc))
  | _, acc => acc

def resSlots : List ResultVar → List Nat
  | [] => []
  | .tmp t :: l => t :: resSlots l
  | .cell t _ :: l => t :: resSlots l

def depthOf (n : Nat) : Nat := if n ≤ 1 then 0 else if n ≤ 4 then 1 else if n ≤ 16 then 2 else if n ≤ 64 then 3 else 4

def sfOf (s : Stat) (fn : Func) (body : Code) : SF :=
  let vars := crossOf body ((resSlots fn.results.toList).foldl addTo [])
  ⟨vars, depthOf vars.length, fn.ntmps, s.gl, s.th, s.eq⟩

/- THE ARGUMENTS -/

structure BK where
  f : List C → Tr C → (Tr C → R) → R

noncomputable def bk (sf : SF) : Nat → Nat → BK
  | _, 0 => ⟨fun args vs k => List.rec (motive := fun _ => R) (k vs) (fun _ _ _ => none) args⟩
  | i, n + 1 => ⟨fun args vs k => List.rec (motive := fun _ => R) none (fun c t _ => (bk sf (i + 1) n).f t ((lay sf i).w vs c) k) args⟩

theorem bk_ok {sf : SF} : ∀ (n i : Nat) {args : List C} {vs : Tr C} {k : Tr C → R} {r : C × Mem}, (bk sf i n).f args vs k = some r → args.length = n ∧ ∃ vs', k vs' = some r ∧
    ∀ ε a, SRel sf ε [] [] vs a → ∀ vals, C.reals ε args = some vals → (∀ j v, vals[j]? = some v → a.tmps[i + j]? = some v) → SRel sf ε [] [] vs' a
  | 0, i, [], vs, k, r, h => ⟨rfl, vs, h, fun ε a hS _ _ _ => hS⟩
  | 0, i, _ :: _, vs, k, r, h => by cases h
  | n + 1, i, [], vs, k, r, h => by cases h
  | n + 1, i, c :: l, vs, k, r, h => by
    have h' : (bk sf (i + 1) n).f l ((lay sf i).w vs c) k = some r := h
    obtain ⟨h1, vs', h2, h3⟩ := bk_ok n (i + 1) h'
    refine ⟨by simp [h1], vs', h2, fun ε a hS vals hv hj => ?_⟩
    obtain ⟨v, rest, e1, e2, rfl⟩ := reals_cons hv
    have h0 : a.tmps[i]? = some v := by simpa using hj 0 v rfl
    refine h3 ε a ?_ rest e2 (fun j u hu => by have := hj (j + 1) u (by simpa using hu); rwa [show i + (j + 1) = i + 1 + j from by omega] at this)
    -- the slot has its value already
    have hlt : i < a.tmps.size := (Array.getElem?_eq_some_iff.1 h0).1
    have hput := hS.put (d := i) (by rw [Nat.blt_eq, ← hS.size]; exact hlt) e1
    have he : a.put (some i) v = a := by
      have : a.tmps.setIfInBounds i v = a.tmps := by
        apply Array.ext_getElem?
        intro j
        rw [Array.getElem?_setIfInBounds]
        split
        · rename_i e; subst e; rw [h0]
        · rfl
      show (⟨a.tmps.setIfInBounds i v, a.defers⟩ : Act) = ⟨a.tmps, a.defers⟩
      rw [this]
    rw [he] at hput
    exact hput.out

/- THE RESULTS -/

structure RSx where
  f : Tr C → Mem → (List C → R) → R

noncomputable def rsK (P : Program) (sf : SF) : List ResultVar → RSx
  | [] => ⟨fun _ _ k => k []⟩
  | .tmp t :: l => ⟨fun vs m k => (cOpd sf [] (.tmp t)).g [] vs fun c => (rsK P sf l).f vs m fun r => k (c :: r)⟩
  | .cell s t :: l => match tiOf P t with
    | none => ⟨fun _ _ _ => none⟩
    | some ti => match ti.agg with
      | true => ⟨fun vs m k => (cOpd sf [] (.tmp s)).g [] vs fun c => c.onPtr fun b q => onBlk (m.at b) fun _ n cs _ _ => onB (Nat.ble (Nat.add q ti.size) n) ((rsK P sf l).f vs m fun r => k (.a ti.size (sub cs q ti.size n) :: r)) none⟩
      | false => ⟨fun vs m k => (cOpd sf [] (.tmp s)).g [] vs fun c => c.onPtr fun b q => onBlk (m.at b) fun _ _ cs _ _ => onO (nth cs q) fun c => (rsK P sf l).f vs m fun r => k (c :: r)⟩

def resSem (tmps : Array Value) : ResultVar → Sem Value
  | .tmp t => pure (tmps.getD t Go.undef)
  | .cell s t => do loadVar t (← asAddr (tmps.getD s Go.undef))

section
variable {P : Program} {wb : World} {sf : SF} {s : Stat}

theorem rsK_ok : ∀ {l : List ResultVar} {vs : Tr C} {m : Mem} {k : List C → R} {r : C × Mem}, (rsK P sf l).f vs m k = some r → ∃ cs, k cs = some r ∧ ∀ ε a w, SRel sf ε [] [] vs a → MRel wb ε m w →
    ∃ vals, C.reals ε cs = some vals ∧ (l.mapM (resSem a.tmps)).run P w = .ok vals w
  | [], vs, m, k, r, h => ⟨[], h, fun ε a w _ _ => ⟨[], by simp [C.reals], by simp⟩⟩
  | .tmp t :: l, vs, m, k, r, h => by
    unfold rsK at h
    obtain ⟨c, h1, h2⟩ := cOpd_ok sf [] (.tmp t) _ _ _ _ h
    obtain ⟨cs, h3, h4⟩ := rsK_ok h1
    refine ⟨c :: cs, h3, fun ε a w hS hm => ?_⟩
    obtain ⟨vals, h5, h6⟩ := h4 ε a w hS hm
    refine ⟨_, reals_of (h2 ε a hS) h5, ?_⟩
    rw [List.mapM_cons]
    simp only [resSem, Sem.run_bind, Sem.run_pure, Result.andThen_ok, h6]
    rfl
  | .cell s t :: l, vs, m, k, r, h => by
    unfold rsK at h
    split at h
    · cases h
    · rename_i ti ht
      have hok := tiOf_ok ht
      split at h
      · rename_i hag
        obtain ⟨c, h1, h2⟩ := cOpd_ok sf [] (.tmp s) _ _ _ _ h
        obtain ⟨b, q, rfl, h3⟩ := C.onPtr_inv h1
        obtain ⟨ty, n, cs0, fz, wr, h4, h5⟩ := onBlk_inv h3
        obtain ⟨h6, h7⟩ := onB_inv h5
        obtain ⟨cs, h8, h9⟩ := rsK_ok h7
        refine ⟨_, h8, fun ε a w hS hm => ?_⟩
        obtain ⟨vals, h10, h11⟩ := h9 ε a w hS hm
        obtain ⟨y, y1, y2⟩ := real_p (h2 ε a hS)
        obtain ⟨v, v1, v2⟩ := run_load_agg (P := P) hm hok hag y1 h4 (Nat.le_of_ble_eq_true h6)
        refine ⟨_, reals_of v1 h10, ?_⟩
        have y3 : a.tmps.getD s Go.undef = .pointer (some ⟨y.blk, y.base + q, none⟩) := y2
        rw [List.mapM_cons]
        simp only [resSem, Sem.run_bind, Sem.run_pure, Result.andThen_ok, h11, y3, asAddr, v2]
      · rename_i hag
        obtain ⟨c, h1, h2⟩ := cOpd_ok sf [] (.tmp s) _ _ _ _ h
        obtain ⟨b, q, rfl, h3⟩ := C.onPtr_inv h1
        obtain ⟨ty, n, cs0, fz, wr, h4, h5⟩ := onBlk_inv h3
        obtain ⟨u, h6, h7⟩ := onO_inv h5
        obtain ⟨cs, h8, h9⟩ := rsK_ok h7
        refine ⟨_, h8, fun ε a w hS hm => ?_⟩
        obtain ⟨vals, h10, h11⟩ := h9 ε a w hS hm
        obtain ⟨y, y1, y2⟩ := real_p (h2 ε a hS)
        obtain ⟨v, v1, v2⟩ := run_load_cell (P := P) hm hok hag y1 h4 h6
        refine ⟨_, reals_of v1 h10, ?_⟩
        have y3 : a.tmps.getD s Go.undef = .pointer (some ⟨y.blk, y.base + q, none⟩) := y2
        rw [List.mapM_cons]
        simp only [resSem, Sem.run_bind, Sem.run_pure, Result.andThen_ok, h11, y3, asAddr, v2]

noncomputable def retC (l : List C) : C := List.rec (motive := fun _ => C) (.t []) (fun c t _ => List.rec (motive := fun _ => C) c (fun _ _ _ => .t (c :: t)) t) l

theorem retC_ok {fn : Func} {tmps : Array Value} {cs : List C} {vals : List Value} {ε : Ev} {w : World} (h : C.reals ε cs = some vals) (hr : (fn.results.toList.mapM (resSem tmps)).run P w = .ok vals w) :
    ∃ v, C.real ε (retC cs) = some v ∧ (results fn tmps).run P w = .ok v w := by
  have hres : results fn tmps = (do let vs ← fn.results.mapM (resSem tmps); pure (if h : vs.size = 1 then vs[0] else .tuple vs)) := rfl
  have hrun : (results fn tmps).run P w = .ok (if h : vals.toArray.size = 1 then vals.toArray[0] else .tuple vals.toArray) w := by
    rw [hres, Array.mapM_eq_mapM_toList]
    simp only [Sem.run_bind, Sem.run_map, hr, Result.andThen_ok, Sem.run_pure]
  refine ⟨_, ?_, hrun⟩
  match cs, vals, h with
  | [], vals, h =>
    simp only [C.reals, Option.some.injEq] at h
    subst h
    simp [retC, C.real, C.reals]
  | [c], vals, h =>
    obtain ⟨v, r, h1, h2, rfl⟩ := reals_cons h
    simp only [C.reals, Option.some.injEq] at h2
    subst h2
    simpa [retC] using h1
  | c :: d :: l, vals, h =>
    obtain ⟨v, r, h1, h2, rfl⟩ := reals_cons h
    obtain ⟨v', r', h3, h4, rfl⟩ := reals_cons h2
    have : retC (c :: d :: l) = .t (c :: d :: l) := rfl
    rw [this]
    simp only [C.real, reals_of h1 (reals_of h3 h4), Option.map_some]
    simp

/- FUNCTIONS -/

structure FN where
  run : CallF → List C → Mem → (C → Mem → R) → R

noncomputable def onNil {β : Type} (l : List β) (k : R) : R := List.rec (motive := fun _ => R) k (fun _ _ _ => none) l

theorem onNil_inv {β : Type} {l : List β} {k : R} {r : C × Mem} (h : onNil l k = some r) : l = [] ∧ k = some r := by
  cases l
  · exact ⟨rfl, h⟩
  · cases h

noncomputable def fin1 (P : Program) (sf : SF) (rs : List ResultVar) (df : List Dfr) (k : C → Mem → R) : K :=
  fun vs m => onNil m.df ((rsK P sf rs).f vs m fun l => k (retC l) ⟨m.t, m.nx, df⟩)

noncomputable def cFun (P : Program) (s : Stat) (f : FuncId) : FN :=
  match nth P.funcs.toList f with
  | none => ⟨fun _ _ _ _ => none⟩
  | some fn => match fn.body with
    | none => ⟨fun _ _ _ _ => none⟩
    | some body => if enters P f = true ∧ fn.params.size + fn.nfree ≤ fn.ntmps ∧ (sfOf s fn body).vars.length ≤ 4 ^ (sfOf s fn body).D then
        ⟨fun cf args m k => (bk (sfOf s fn body) 0 (fn.params.size + fn.nfree)).f args .nil fun vs =>
          (cCode P (sfOf s fn body) body).h cf vs ⟨m.t, m.nx, []⟩ [] (fin1 P (sfOf s fn body) fn.results.toList m.df k) (fin1 P (sfOf s fn body) fn.results.toList m.df k)⟩
      else ⟨fun _ _ _ _ => none⟩

theorem cFun_ok {cf : CallF} (hcf : CallOk P wb s cf) {f : FuncId} {args : List C} {m : Mem} {k : C → Mem → R} {r : C × Mem} (h : (cFun P s f).run cf args m k = some r) :
    enters P f = true ∧ ∃ c m', k c m' = some r ∧ m'.df = m.df ∧ ∀ ε vals w, s.ok ε → C.reals ε args = some vals → MRel wb ε m w → Calls P f vals.toArray w (Ret wb ε c m') := by
  simp only [cFun] at h
  split at h
  · cases h
  · rename_i fn hfn
    rw [nth_eq, Array.getElem?_toList] at hfn
    split at h
    · cases h
    · rename_i body hbody
      split at h
      · rename_i hc
        obtain ⟨he, hnt, hlen⟩ := hc
        refine ⟨he, ?_⟩
        obtain ⟨hargs, vs, h1, h2⟩ := bk_ok _ 0 h
        -- where it returns
        have hrt : RtOk P wb f (fun c m' => k c ⟨m'.t, m'.nx, m.df⟩) r (sfOf s fn body) (fin1 P (sfOf s fn body) fn.results.toList m.df k) := by
          intro vs m' h
          obtain ⟨hdf, h3⟩ := onNil_inv h
          obtain ⟨cs', h4, h5⟩ := rsK_ok h3
          refine ⟨retC cs', m', h4, fun ε a w hr todo cs => ?_⟩
          obtain ⟨vals', h6, h7⟩ := h5 ε a w hr.sl hr.mem
          obtain ⟨v, h8, h9⟩ := retC_ok (fn := fn) h6 h7
          have hdef : a.defers = [] := by
            have hD := hr.df
            rw [hdf] at hD
            cases hd : a.defers with
            | nil => rfl
            | cons x l => rw [hd] at hD; exact hD.elim
          exact ⟨.returned v, w, _, ⟨v, ε, rfl, .refl ε, h8, hr.mem⟩, .refl _ _, rfl, ⟨rfl, hdef, rfl, fn, hfn, h9⟩⟩
        have hk : KOk P wb f (fun c m' => k c ⟨m'.t, m'.nx, m.df⟩) r (sfOf s fn body) [] (fin1 P (sfOf s fn body) fn.results.toList m.df k) := by
          intro vs m' h
          obtain ⟨c, m2, h3, h4⟩ := hrt vs m' h
          refine ⟨c, m2, h3, fun ε a w hr cs => ?_⟩
          obtain ⟨e, w', fr, h5, h6, h7⟩ := h4 ε a w hr [] cs
          exact ⟨e, w', fr, h5, Comes.of_steps (.one step_end) h6, h7⟩
        obtain ⟨c, m', h3, h4⟩ := cCode_ok hcf rfl ⟨rfl, rfl⟩ hrt body [] [] _ (fun id vs m h => by cases h) hk vs ⟨m.t, m.nx, []⟩ h1
        refine ⟨c, ⟨m'.t, m'.nx, m.df⟩, h3, rfl, fun ε vals w hs hv hm => ?_⟩
        have hvl := reals_length hv
        have hsize : (vals.toArray ++ Array.replicate (fn.ntmps - vals.toArray.size) Go.undef).size = fn.ntmps := by simp; omega
        have hS0 : SRel (sfOf s fn body) ε [] [] .nil { tmps := vals.toArray ++ Array.replicate (fn.ntmps - vals.toArray.size) Go.undef, defers := [] } :=
          ⟨fun d i c h _ => (by cases h), fun d i c _ h => (by cases h), Sh_nil _, hlen, hsize, hs.gl, hs.th, hs.eqs⟩
        have hS := h2 ε _ hS0 vals hv (fun j v hj => by
          have hjl : j < vals.length := (List.getElem?_eq_some_iff.1 hj).1
          simp only [Nat.zero_add]
          rw [Array.getElem?_append_left (by simpa using hjl)]
          simpa using hj)
        intro cs
        have henter : Frame.enter P f vals.toArray .normal = (base f).at { tmps := vals.toArray ++ Array.replicate (fn.ntmps - vals.toArray.size) Go.undef, defers := [] } [.code body] := by
          simp [Frame.enter, Frame.at, hfn, hbody, base]
        rw [henter]
        obtain ⟨e, w', fr, ⟨v, ε', h5, h6, h7, h8⟩, h9, h10, h11⟩ := h4 ε _ w ⟨hS, hm.dfr [], trivial⟩ cs
        exact ⟨e, w', fr, ⟨v, ε', h5, h6, h7, h8.dfr _⟩, h9, h10, h11⟩
      · cases h

/- RUNS -/

/-- Functions whose calls are told apart from their code. -/
structure XF where
  x : List C → Mem → (C → Mem → R) → R

def ExtOk (P : Program) (wb : World) (s : Stat) (ext : FuncId → Option XF) : Prop := ∀ f x, ext f = some x → FunOk P wb s f x.x

/-- n calls deep at most. -/
noncomputable def F (P : Program) (s : Stat) (ext : FuncId → Option XF) (n : Nat) : CallF :=
  Nat.rec (motive := fun _ => CallF) (fun _ _ _ _ => none) (fun _ ih f args m k => Option.rec (motive := fun _ => R) ((cFun P s f).run ih args m k) (fun x => x.x args m k) (ext f)) n

theorem F_ok {ext : FuncId → Option XF} (hx : ExtOk P wb s ext) : ∀ n, CallOk P wb s (F P s ext n)
  | 0 => fun f args m k r h => by cases h
  | n + 1 => fun f args m k r h => by
    have h' : Option.rec (motive := fun _ => R) ((cFun P s f).run (F P s ext n) args m k) (fun x => x.x args m k) (ext f) = some r := h
    cases he : ext f with
    | none =>
      rw [he] at h'
      obtain ⟨h1, c, m', h2, h3, h4⟩ := cFun_ok (F_ok hx n) h'
      exact ⟨c, m', h2, h3, fun ε vals w hs hv hm => .inr ⟨h1, h4 ε vals w hs hv hm⟩⟩
    | some x =>
      rw [he] at h'
      exact hx f x he args m k r h'

end

/-- A whole run: what the call of a function comes to. -/
theorem run_ok {P : Program} {wb : World} {s : Stat} {ext : FuncId → Option XF} (hx : ExtOk P wb s ext) {n : Nat} {f : FuncId} {args : List C} {m : Mem} {c : C} {m' : Mem} (h : (cFun P s f).run (F P s ext n) args m (fun c m => some (c, m)) = some (c, m')) {ε : Ev} {vals : List Value} {w : World}
    (hs : s.ok ε) (hv : C.reals ε args = some vals) (hm : MRel wb ε m w) : Calls P f vals.toArray w (Ret wb ε c m') := by
  obtain ⟨_, c1, m1, h1, _, h2⟩ := cFun_ok (F_ok hx n) h
  cases h1
  exact h2 ε vals w hs hv hm

end Go.Proofs.YtoihipolfdhhnaaGreatDoor.Vm
