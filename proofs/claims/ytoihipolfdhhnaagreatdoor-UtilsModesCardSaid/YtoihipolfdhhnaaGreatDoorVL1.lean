/-
  Vm, thirteenth part: regions that draw their order.
-/
import Derived.Test.YtoihipolfdhhnaaGreatDoorVL
namespace Go.Proofs.YtoihipolfdhhnaaGreatDoor.Vm

/- WHICH MAY COME UP -/

noncomputable def rdy (ops : Array Oper) (done : List Bool) : List Nat :=
  (List.range ops.size).filter fun i => onB ((nth done i).getD true) false (((nth ops.toList i).map fun o => o.after.toList.all fun e => onB (Region.binds .any e) ((nth done e.on).getD false) true).getD false)

theorem rdy_eq (ops : Array Oper) (done : List Bool) : Region.ready .any ops done.toArray = rdy ops done := by
  unfold Region.ready rdy
  congr 1
  funext i
  have h1 : done.toArray.getD i true = (nth done i).getD true := by rw [nth_eq, Array.getD_eq_getD_getElem?]; simp
  have h2 : ∀ e : Edge, done.toArray.getD e.on false = (nth done e.on).getD false := fun e => by rw [nth_eq, Array.getD_eq_getD_getElem?]; simp
  have h3 : ∀ o : Oper, (o.after.all fun e => !Region.binds .any e || done.toArray.getD e.on false) = o.after.toList.all fun e => onB (Region.binds .any e) ((nth done e.on).getD false) true := fun o => by
    rw [← Array.all_toList]
    congr 1
    funext e
    rw [h2]
    cases Region.binds .any e <;> rfl
  have h4 : ops[i]? = nth ops.toList i := by rw [nth_eq, Array.getElem?_toList]
  simp only [h3, h1, h4]
  cases (nth done i).getD true <;> rfl

structure XRec where
  o : Oper
  a : Act
  v : Value

def Holds (P : Program) (X : List XRec) (w : World) : Prop := ∀ y ∈ X, (execOp y.a.eval y.o).run P w = .ok (.value y.v) w

structure Rec where
  oc : Opc
  st : List C
  vs : Tr C
  c : C

noncomputable def chk (l : List Rec) (m : Mem) (k : R) : R :=
  List.rec (motive := fun _ => R) k (fun x _ ih => x.oc.o x.st x.vs m fun c _ => onB (C.same c x.c) ih none) l

def RsRel (P : Program) (sf : SF) (ε : Ev) : List Rec → List XRec → Prop
  | [], [] => True
  | x :: l, y :: X => (∃ g, PureOk P sf g y.o x.oc ∧ SRel sf ε g x.st x.vs y.a ∧ C.real ε x.c = some y.v) ∧ RsRel P sf ε l X
  | _, _ => False

theorem RsRel.le {P : Program} {sf : SF} {ε ε' : Ev} (h : ε.le ε') : ∀ {l : List Rec} {X : List XRec}, RsRel P sf ε l X → RsRel P sf ε' l X
  | [], [], _ => trivial
  | x :: l, y :: X, ⟨⟨g, h1, h2, h3⟩, h4⟩ => ⟨⟨g, h1, h2.le h, C.real_le h h3⟩, RsRel.le h h4⟩
  | [], _ :: _, h => h.elim
  | _ :: _, [], h => h.elim

def QOk (P : Program) (sf : SF) (q : List Rec) : Prop := ∀ x ∈ q, ∃ g o, PureOk P sf g o x.oc

theorem wpAnyH_mono {P : Program} {md : Region.Mode} {ops : Array Oper} {Q : Exit → Act → World → Prop} {S S' : World → Prop} (h : ∀ w, S' w → S w) : ∀ (n : Nat) (listed : Array Bool) (a : Act) (w : World), wpAnyH P md ops Q S' n listed a w → wpAnyH P md ops Q S n listed a w
  | 0, _, _, _, hw => hw
  | n + 1, _, _, _, hw => ⟨hw.1, fun i hi => wpOp_mono (fun a' w' h' => ⟨h _ h'.1, wpAnyH_mono h n _ a' w' h'.2⟩) (hw.2 i hi)⟩

/- PLANS -/

structure DX where
  x : CallF → List C → Tr C → Mem → List Rec → (C → Mem → List Rec → R) → R

structure DB where
  b : CallF → List C → Tr C → Mem → List Rec → K → R

noncomputable def dbNo : DB := ⟨fun _ _ _ _ _ _ => none⟩

noncomputable def xFree (P : Program) (sf : SF) (g : List Nat) (o : Oper) : DX := ⟨fun _ st vs m q k => (cOp P sf g o).o st vs m fun c m => k c m q⟩
noncomputable def xLoad (P : Program) (sf : SF) (g : List Nat) (o : Oper) : DX := ⟨fun _ st vs m q k => (cOp P sf g o).o st vs m fun c m => k c m (⟨cOp P sf g o, st, vs, c⟩ :: q)⟩
noncomputable def xEff (P : Program) (sf : SF) (g : List Nat) (o : Oper) : DX := ⟨fun cf st vs m q k => (cRun P sf g o).r cf st vs m fun c m => chk q m (k c m q)⟩

noncomputable def cStp (sf : SF) (ops : Array Oper) (g : List Nat) (o : Oper) (ex : DX) (nx : List Nat → DB) : DB :=
  match o.guard, o.dst with
  | none, none => ⟨fun cf st vs m q k => ex.x cf st vs m q fun _ m q => (nx g).b cf st vs m q k⟩
  | none, some d => if Nat.blt d sf.nt then ⟨fun cf st vs m q k => ex.x cf st vs m q fun c m q => (nx (d :: g)).b cf (c :: st) ((lay sf d).w vs c) m q k⟩ else dbNo
  | some (j, want), none => match (nth ops.toList j).bind (·.dst) with
    | none => dbNo
    | some dj => ⟨fun cf st vs m q k => (cOpd sf g (.tmp dj)).g st vs fun c => c.onGuard want (ex.x cf st vs m q fun _ m q => (nx g).b cf st vs m q k) ((nx g).b cf st vs m q k)⟩
  | some (j, want), some d => match (nth ops.toList j).bind (·.dst) with
    | none => dbNo
    | some dj => if Nat.blt d sf.nt then ⟨fun cf st vs m q k => (cOpd sf g (.tmp dj)).g st vs fun c => c.onGuard want
        (ex.x cf st vs m q fun c m q => (nx (d :: g)).b cf (c :: st) ((lay sf d).w vs c) m q k)
        ((nx (d :: g)).b cf (.undef :: st) ((lay sf d).w vs .undef) m q k)⟩ else dbNo

/-- An operation to take first. -/
noncomputable def takes (P : Program) (ops : Array Oper) (done : List Bool) (want : Op → Bool) (i : Nat) : Bool :=
  match nth ops.toList i with
  | none => false
  | some o => onB (want o.op) (Region.free .any ops done.toArray i) false

noncomputable def cPlan (P : Program) (sf : SF) (ops : Array Oper) : Nat → List Bool → List Nat → DB
  | 0, done, _ => match rdy ops done with
    | [] => ⟨fun _ _ vs m _ k => k vs m⟩
    | _ => dbNo
  | n + 1, done, g => match rdy ops done with
    | [] => ⟨fun _ _ vs m _ k => k vs m⟩
    | i :: is => match (i :: is).find? fun i => takes P ops done (ghOp P) i with
      | some i => match nth ops.toList i with
        | none => dbNo
        | some o => cStp sf ops g o (xFree P sf g o) fun g => cPlan P sf ops n (done.set i true) g
      | none => match is with
        | [] => match nth ops.toList i with
          | none => dbNo
          | some o => cStp sf ops g o (xEff P sf g o) fun g => cPlan P sf ops n (done.set i true) g
        | j :: is => match (i :: j :: is).find? fun i => takes P ops done isLoad i with
          | some i => match nth ops.toList i with
            | none => dbNo
            | some o => cStp sf ops g o (xLoad P sf g o) fun g => cPlan P sf ops n (done.set i true) g
          | none => dbNo

noncomputable def cDraw (P : Program) (sf : SF) (ops : Array Oper) : RB :=
  match P.follows .mixedOrders && Region.noSelect ops with
  | true => ⟨fun cf st vs m k => (cPlan P sf ops ops.size (List.replicate ops.size false) []).b cf st vs m [] k⟩
  | false => ⟨fun _ _ _ _ _ => none⟩

section
variable {P : Program} {wb : World} {sf : SF} {s : Stat} {f : FuncId} {k0 : C → Mem → R} {r : C × Mem} {items : List Item} {ops : Array Oper} {cf : CallF} {g : List Nat} {n i : Nat} {done : List Bool} {o : Oper}

theorem chk_inv {m : Mem} {k : R} : ∀ {l : List Rec}, QOk P sf l → chk l m k = some r → k = some r ∧ ∀ {ε : Ev} {X : List XRec} {w : World}, RsRel P sf ε l X → MRel wb ε m w → Holds P X w
  | [], _, h => ⟨h, fun {ε X w} hR _ => by
    cases X with
    | nil => exact fun y hy => by cases hy
    | cons y X => exact hR.elim⟩
  | x :: l, hq, h => by
    have h0 : x.oc.o x.st x.vs m (fun c _ => onB (C.same c x.c) (chk l m k) none) = some r := h
    obtain ⟨g0, o0, hp⟩ := hq x (List.mem_cons_self ..)
    obtain ⟨c0, h1, _⟩ := hp _ _ _ _ _ h0
    obtain ⟨h2, h3⟩ := onB_inv h1
    obtain ⟨h4, h5⟩ := chk_inv (fun y hy => hq y (List.mem_cons_of_mem _ hy)) h3
    refine ⟨h4, fun {ε X w} hR hm => ?_⟩
    cases X with
    | nil => exact hR.elim
    | cons y X =>
      obtain ⟨⟨g, h6, h7, h8⟩, h9⟩ := hR
      obtain ⟨c, h10, h11⟩ := h6 _ _ _ _ _ h0
      obtain ⟨h12, _⟩ := onB_inv h10
      have e := C.same_eq _ _ h12
      subst e
      obtain ⟨v, h13, h14⟩ := h11 wb ε y.a w h7 hm
      rw [h8] at h13
      cases h13
      intro z hz
      rcases List.mem_cons.1 hz with rfl | hz
      · exact h14
      · exact h5 h9 hm z hz

/-- What is aimed at. -/
def Aim (P : Program) (f : FuncId) (items : List Item) (ops : Array Oper) (Rr : Ending → World → Prop) (X : List XRec) (n : Nat) (done : List Bool) (a : Act) (w : World) : Prop :=
  ∃ Y, (∀ y ∈ X, y ∈ Y) ∧ Holds P Y w ∧ wpAnyH P .any ops (Behind P f items Rr) (Holds P Y) n done.toArray a w

def SkOk (P : Program) (f : FuncId) (items : List Item) (ops : Array Oper) (n : Nat) (done : List Bool) (i : Nat) (o : Oper) : Prop :=
  ∀ Rr X a w, Holds P X w → Region.wanted o (yielded ops a.tmps) = false → Aim P f items ops Rr X n (done.set i true) (a.put o.dst Go.undef) w → Aim P f items ops Rr X (n + 1) done a w

def DxOk (P : Program) (wb : World) (s : Stat) (f : FuncId) (r : C × Mem) (sf : SF) (items : List Item) (ops : Array Oper) (g : List Nat) (n : Nat) (done : List Bool) (i : Nat) (o : Oper) (cf : CallF) (ex : DX) : Prop :=
  ∀ st vs m q kk, QOk P sf q → ex.x cf st vs m q kk = some r → ∃ c m' q', kk c m' q' = some r ∧ QOk P sf q' ∧ m'.df = m.df ∧ ∀ Rr ε a w X, s.ok ε → SRel sf ε g st vs a → MRel wb ε m w → RsRel P sf ε q X → Holds P X w → Region.wanted o (yielded ops a.tmps) = true →
    (∀ ε' v w' X', ε.le ε' → C.real ε' c = some v → MRel wb ε' m' w' → (∀ y ∈ X, y ∈ X') → RsRel P sf ε' q' X' → Holds P X' w' → Aim P f items ops Rr X' n (done.set i true) (a.put o.dst v) w') → Aim P f items ops Rr X (n + 1) done a w

def DbOk (P : Program) (wb : World) (f : FuncId) (k0 : C → Mem → R) (r : C × Mem) (sf : SF) (items : List Item) (ops : Array Oper) (g : List Nat) (n : Nat) (done : List Bool) (cf : CallF) (k : K) (d : DB) : Prop :=
  ∀ st vs m q, QOk P sf q → d.b cf st vs m q k = some r → ∃ c m', k0 c m' = some r ∧ ∀ Rr ε a w X, FRel wb sf g st vs m ε a w → RsRel P sf ε q X → Holds P X w → (∀ e w, Ret wb ε c m' e w → Rr e w) → Aim P f items ops Rr X n done a w

theorem take_ok {X : List XRec} {a : Act} {w : World} {v : Value} {Rr : Ending → World → Prop} (hs : Region.noSelect ops = true) (ho : ops[i]? = some o) (hf : Region.free .any ops done.toArray i = true) (hr : i ∈ rdy ops done)
    (hy : ∀ Y : List XRec, (∀ y ∈ X, y ∈ Y) → YieldsIf P ops (Holds P Y) o v a) (hA : Aim P f items ops Rr X n (done.set i true) (a.put o.dst v) w) : Aim P f items ops Rr X (n + 1) done a w := by
  obtain ⟨Y, h1, h2, h3⟩ := hA
  refine ⟨Y, h1, h2, wpAnyH_take ho hs hf (by rw [rdy_eq]; simpa using hr) (fun c a w hq => by cases hq.1) (hy Y h1) h2 ?_⟩
  rw [List.setIfInBounds_toArray]
  exact h3

theorem take_skip (hs : Region.noSelect ops = true) (ho : ops[i]? = some o) (hf : Region.free .any ops done.toArray i = true) (hr : i ∈ rdy ops done) : SkOk P f items ops n done i o :=
  fun Rr X a w _ hw hA => take_ok hs ho hf hr (fun Y _ => .inr ⟨hw, rfl⟩) hA

theorem sole_skip (ho : ops[i]? = some o) (hr : rdy ops done = [i]) : SkOk P f items ops n done i o := by
  intro Rr X a w hX hw ⟨Y, h1, h2, h3⟩
  refine ⟨Y, h1, h2, wpAnyH_all (rs := [i]) (by rw [rdy_eq]; exact hr) (by simp) fun j hj => ?_⟩
  simp only [List.mem_singleton] at hj
  subst hj
  unfold wpOp
  simp only [ho, hw, Bool.false_eq_true, if_false]
  rw [List.setIfInBounds_toArray]
  exact ⟨h2, h3⟩

theorem xFree_ok (hfr : ghOp P o.op = true) (hs : Region.noSelect ops = true) (ho : ops[i]? = some o) (hf : Region.free .any ops done.toArray i = true) (hr : i ∈ rdy ops done) : DxOk P wb s f r sf items ops g n done i o cf (xFree P sf g o) := by
  intro st vs m q kk hq h
  obtain ⟨c, m', h1, h2, h3⟩ := cOp_gh (sf := sf) (g := g) hfr st vs m _ r h
  refine ⟨c, m', q, h1, hq, h2, fun Rr ε a w X _ hS hm hR hX hw hk => ?_⟩
  obtain ⟨ε', v, h4, h5, h6, h7⟩ := h3 wb ε a w hS hm
  exact take_ok hs ho hf hr (fun Y _ => .inl ⟨hw, fun w' _ => h7 w'⟩) (hk ε' v w X h4 h5 h6 (fun y hy => hy) (hR.le h4) hX)

theorem xLoad_ok (hld : isLoad o.op = true) (hs : Region.noSelect ops = true) (ho : ops[i]? = some o) (hf : Region.free .any ops done.toArray i = true) (hr : i ∈ rdy ops done) : DxOk P wb s f r sf items ops g n done i o cf (xLoad P sf g o) := by
  intro st vs m q kk hq h
  have hp := cOp_load (P := P) (sf := sf) (g := g) hld
  obtain ⟨c, h1, h2⟩ := hp st vs m _ r h
  have hq' : QOk P sf (⟨cOp P sf g o, st, vs, c⟩ :: q) := by
    intro x hx
    rcases List.mem_cons.1 hx with rfl | hx
    · exact ⟨g, o, hp⟩
    · exact hq x hx
  refine ⟨c, m, _, h1, hq', rfl, fun Rr ε a w X _ hS hm hR hX hw hk => ?_⟩
  obtain ⟨v, h3, h4⟩ := h2 wb ε a w hS hm
  have hA := hk ε v w (⟨o, a, v⟩ :: X) (.refl ε) h3 hm (fun y hy => List.mem_cons_of_mem _ hy) ⟨⟨g, hp, hS, h3⟩, hR⟩ (fun y hy => by
    rcases List.mem_cons.1 hy with rfl | hy
    · exact h4
    · exact hX y hy)
  obtain ⟨Y, h5, h6, h7⟩ := take_ok (X := ⟨o, a, v⟩ :: X) hs ho hf hr (fun Y hY => .inl ⟨hw, fun w' hw' => hw' ⟨o, a, v⟩ (hY _ (List.mem_cons_self ..))⟩) hA
  exact ⟨Y, fun y hy => h5 y (List.mem_cons_of_mem _ hy), h6, h7⟩

theorem xEff_ok (hcf : CallOk P wb s cf) (ho : ops[i]? = some o) (hr : rdy ops done = [i]) : DxOk P wb s f r sf items ops g n done i o cf (xEff P sf g o) := by
  intro st vs m q kk hq h
  obtain ⟨c, m', h1, h2, h3⟩ := cRun_ok hcf h
  obtain ⟨h4, h5⟩ := chk_inv (wb := wb) hq h1
  refine ⟨c, m', q, h4, hq, h2, fun Rr ε a w X hs hS hm hR hX hw hk => ?_⟩
  refine ⟨X, fun y hy => hy, hX, wpAnyH_all (rs := [i]) (by rw [rdy_eq]; exact hr) (by simp) fun j hj => ?_⟩
  simp only [List.mem_singleton] at hj
  subst hj
  refine wpOp_does1 ho hw (h3 ε a w hs hS hm) fun ε' v w' hle hreal hm' => ?_
  have hX' := h5 (hR.le hle) hm'
  obtain ⟨Y, h6, h7, h8⟩ := hk ε' v w' X hle hreal hm' (fun y hy => hy) (hR.le hle) hX'
  rw [List.setIfInBounds_toArray]
  exact ⟨hX', wpAnyH_mono (fun w hw y hy => hw y (h6 y hy)) _ _ _ _ h8⟩

theorem cStp_ok {k : K} {ex : DX} {nx : List Nat → DB} (h1 : sf.gl = s.gl) (h2 : sf.th = s.th ∧ sf.eq = s.eq) (hsk : SkOk P f items ops n done i o) (hex : DxOk P wb s f r sf items ops g n done i o cf ex)
    (hnx : ∀ g, DbOk P wb f k0 r sf items ops g n (done.set i true) cf k (nx g)) : DbOk P wb f k0 r sf items ops g (n + 1) done cf k (cStp sf ops g o ex nx) := by
  intro st vs m q hq h
  have hs : ∀ {ε a w}, FRel wb sf g st vs m ε a w → s.ok ε := fun hr => ⟨by rw [← h1]; exact hr.sl.gl, by rw [← h2.1]; exact hr.sl.th, by rw [← h2.2]; exact hr.sl.eqs⟩
  unfold cStp at h
  split at h
  · rename_i hg hd
    obtain ⟨c, m', q', h3, hq', h4, h5⟩ := hex _ _ _ _ _ hq h
    obtain ⟨c2, m2, h6, h7⟩ := hnx g _ _ _ _ hq' h3
    refine ⟨c2, m2, h6, fun Rr ε a w X hr hR hX hRr => h5 _ ε a w X (hs hr) hr.sl hr.mem hR hX (by simp [Region.wanted, hg]) fun ε' v w' X' hle hreal hm' hXX hR' hX' => ?_⟩
    rw [hd]
    exact h7 Rr ε' a w' X' ⟨hr.sl.le hle, hm', h4 ▸ hr.df.le hle⟩ hR' hX' fun e w h => hRr e w (h.le hle)
  · rename_i d hg hd
    split at h
    · rename_i hlt
      obtain ⟨c, m', q', h3, hq', h4, h5⟩ := hex _ _ _ _ _ hq h
      obtain ⟨c2, m2, h6, h7⟩ := hnx (d :: g) _ _ _ _ hq' h3
      refine ⟨c2, m2, h6, fun Rr ε a w X hr hR hX hRr => h5 _ ε a w X (hs hr) hr.sl hr.mem hR hX (by simp [Region.wanted, hg]) fun ε' v w' X' hle hreal hm' hXX hR' hX' => ?_⟩
      rw [hd]
      exact h7 Rr ε' _ w' X' ⟨(hr.sl.le hle).put hlt hreal, hm', by rw [Act.put_defers', h4]; exact hr.df.le hle⟩ hR' hX' fun e w h => hRr e w (h.le hle)
    · cases h
  · rename_i j want hg hd
    split at h
    · cases h
    · rename_i dj hdj
      obtain ⟨u, h3, h4⟩ := cOpd_ok sf g (.tmp dj) _ _ _ _ h
      have sk : (nx g).b cf st vs m q k = some r → ((∃ b, u = .bool b ∧ b ≠ want) ∨ u = .undef) → ∃ c m', k0 c m' = some r ∧ ∀ Rr ε a w X, FRel wb sf g st vs m ε a w → RsRel P sf ε q X → Holds P X w → (∀ e w, Ret wb ε c m' e w → Rr e w) → Aim P f items ops Rr X (n + 1) done a w := by
        intro h5 e
        obtain ⟨c2, m2, h9, h10⟩ := hnx g _ _ _ _ hq h5
        refine ⟨c2, m2, h9, fun Rr ε a w X hr hR hX hRr => hsk _ X a w hX ((wanted_of hg hdj (h4 ε a hr.sl)).2 e) ?_⟩
        rw [hd]
        exact h10 Rr ε a w X hr hR hX hRr
      rcases C.onGuard_inv h3 with ⟨e, h5⟩ | ⟨e, h5⟩ | ⟨e, h5⟩
      · obtain ⟨c, m', q', h6, hq', h7, h8⟩ := hex _ _ _ _ _ hq h5
        obtain ⟨c2, m2, h9, h10⟩ := hnx g _ _ _ _ hq' h6
        refine ⟨c2, m2, h9, fun Rr ε a w X hr hR hX hRr => h8 _ ε a w X (hs hr) hr.sl hr.mem hR hX ((wanted_of hg hdj (h4 ε a hr.sl)).1 e) fun ε' v w' X' hle hreal hm' hXX hR' hX' => ?_⟩
        rw [hd]
        exact h10 Rr ε' a w' X' ⟨hr.sl.le hle, hm', h7 ▸ hr.df.le hle⟩ hR' hX' fun e w h => hRr e w (h.le hle)
      · exact sk h5 (.inl e)
      · exact sk h5 (.inr e)
  · rename_i j want d hg hd
    split at h
    · cases h
    · rename_i dj hdj
      split at h
      · rename_i hlt
        obtain ⟨u, h3, h4⟩ := cOpd_ok sf g (.tmp dj) _ _ _ _ h
        have sk : (nx (d :: g)).b cf (.undef :: st) ((lay sf d).w vs .undef) m q k = some r → ((∃ b, u = .bool b ∧ b ≠ want) ∨ u = .undef) → ∃ c m', k0 c m' = some r ∧ ∀ Rr ε a w X, FRel wb sf g st vs m ε a w → RsRel P sf ε q X → Holds P X w → (∀ e w, Ret wb ε c m' e w → Rr e w) → Aim P f items ops Rr X (n + 1) done a w := by
          intro h5 e
          obtain ⟨c2, m2, h9, h10⟩ := hnx (d :: g) _ _ _ _ hq h5
          refine ⟨c2, m2, h9, fun Rr ε a w X hr hR hX hRr => hsk _ X a w hX ((wanted_of hg hdj (h4 ε a hr.sl)).2 e) ?_⟩
          rw [hd]
          exact h10 Rr ε _ w X ⟨hr.sl.put hlt (c := .undef) rfl, hr.mem, by rw [Act.put_defers']; exact hr.df⟩ hR hX hRr
        rcases C.onGuard_inv h3 with ⟨e, h5⟩ | ⟨e, h5⟩ | ⟨e, h5⟩
        · obtain ⟨c, m', q', h6, hq', h7, h8⟩ := hex _ _ _ _ _ hq h5
          obtain ⟨c2, m2, h9, h10⟩ := hnx (d :: g) _ _ _ _ hq' h6
          refine ⟨c2, m2, h9, fun Rr ε a w X hr hR hX hRr => h8 _ ε a w X (hs hr) hr.sl hr.mem hR hX ((wanted_of hg hdj (h4 ε a hr.sl)).1 e) fun ε' v w' X' hle hreal hm' hXX hR' hX' => ?_⟩
          rw [hd]
          exact h10 Rr ε' _ w' X' ⟨(hr.sl.le hle).put hlt hreal, hm', by rw [Act.put_defers', h7]; exact hr.df.le hle⟩ hR' hX' fun e w h => hRr e w (h.le hle)
        · exact sk h5 (.inl e)
        · exact sk h5 (.inr e)
      · cases h

theorem takes_inv {a b : Bool} (h : onB a b false = true) : a = true ∧ b = true := by
  cases a
  · cases h
  · exact ⟨rfl, h⟩

theorem cPlan_ok (hcf : CallOk P wb s cf) (h1 : sf.gl = s.gl) (h2 : sf.th = s.th ∧ sf.eq = s.eq) (hns : Region.noSelect ops = true) {k : K} (hk : KOk P wb f k0 r sf items k) : ∀ (n : Nat) (done : List Bool) (g : List Nat),
    DbOk P wb f k0 r sf items ops g n done cf k (cPlan P sf ops n done g) := by
  have fin : ∀ (n : Nat) (done : List Bool) (g : List Nat), rdy ops done = [] → DbOk P wb f k0 r sf items ops g n done cf k ⟨fun _ _ vs m _ k => k vs m⟩ := by
    intro n done g hr st vs m q hq h
    obtain ⟨c, m', h3, h4⟩ := hk vs m h
    exact ⟨c, m', h3, fun Rr ε a w X hF hR hX hRr => ⟨X, fun y hy => hy, hX, wpAnyH_done (by rw [rdy_eq]; exact hr) ⟨rfl, (h4 ε a w ⟨hF.sl.out, hF.mem, hF.df⟩).mono hRr⟩ n⟩⟩
  intro n
  induction n with
  | zero =>
    intro done g
    unfold cPlan
    split
    · rename_i hr; exact fin 0 done g hr
    · intro st vs m q hq h; cases h
  | succ n ih =>
    intro done g
    unfold cPlan
    split
    · rename_i hr; exact fin (n + 1) done g hr
    · rename_i i is hr
      split
      · rename_i j hj
        have hmem : j ∈ rdy ops done := by rw [hr]; exact List.mem_of_find?_eq_some hj
        have htk : takes P ops done (ghOp P) j = true := by simpa using List.find?_some hj
        split
        · intro st vs m q hq h; cases h
        · rename_i o ho
          simp only [takes, ho] at htk
          rw [nth_eq, Array.getElem?_toList] at ho
          obtain ⟨hfr, htk⟩ := (takes_inv htk)
          exact cStp_ok h1 h2 (take_skip hns ho htk hmem) (xFree_ok hfr hns ho htk hmem) fun g => ih (done.set j true) g
      · split
        · split
          · intro st vs m q hq h; cases h
          · rename_i o ho
            rw [nth_eq, Array.getElem?_toList] at ho
            exact cStp_ok h1 h2 (sole_skip ho hr) (xEff_ok hcf ho hr) fun g => ih (done.set i true) g
        · rename_i i2 is2
          split
          · rename_i j hj
            have hmem : j ∈ rdy ops done := by rw [hr]; exact List.mem_of_find?_eq_some hj
            have htk : takes P ops done isLoad j = true := by simpa using List.find?_some hj
            split
            · intro st vs m q hq h; cases h
            · rename_i o ho
              simp only [takes, ho] at htk
              rw [nth_eq, Array.getElem?_toList] at ho
              obtain ⟨hld, htk⟩ := (takes_inv htk)
              exact cStp_ok h1 h2 (take_skip hns ho htk hmem) (xLoad_ok hld hns ho htk hmem) fun g => ih (done.set j true) g
          · intro st vs m q hq h; cases h

theorem cDraw_ok {id : Nat} (hcf : CallOk P wb s cf) (h1 : sf.gl = s.gl) (h2 : sf.th = s.th ∧ sf.eq = s.eq) {k : K} (hk : KOk P wb f k0 r sf items k) {vs : Tr C} {m : Mem}
    (h : (cDraw P sf ops).b cf [] vs m k = some r) : Ends P wb f k0 r (FRel wb sf [] [] vs m) (.code (.region id ops true) :: items) := by
  unfold cDraw at h
  split at h
  · rename_i hc
    simp only [Bool.and_eq_true] at hc
    obtain ⟨c, m', h3, h4⟩ := cPlan_ok hcf h1 h2 hc.2 hk _ _ _ _ _ _ _ (fun x hx => by cases hx) h
    refine ⟨c, m', h3, fun ε a w hr => ?_⟩
    obtain ⟨Y, _, _, h5⟩ := h4 (Ret wb ε c m') ε a { w with drawn := w.drawn + 1 } [] ⟨hr.sl, hr.mem.drew _, hr.df⟩ trivial (fun y hy => by cases hy) (fun e w h => h)
    refine gets_draw (S := Holds P Y) hc.1 ?_
    rw [← List.toArray_replicate]
    exact h5
  · cases h

end

end Go.Proofs.YtoihipolfdhhnaaGreatDoor.Vm
