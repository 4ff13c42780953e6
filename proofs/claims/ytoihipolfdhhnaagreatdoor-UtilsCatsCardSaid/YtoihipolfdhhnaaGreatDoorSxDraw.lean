/-
  The symbolic executor: regions that draw their order; what may be kept behind a call.
-/
import Derived.Test.YtoihipolfdhhnaaGreatDoorSxRun
import Derived.OrdersHeld
namespace Go.Proofs.YtoihipolfdhhnaaGreatDoor

def dtake (T : TypeId → Option TI) (nt : Nat) (ops : Array Oper) : List Nat → Array Bool → St → Option (Array Bool × St)
  | [], l, σ => some (l, σ)
  | i :: is, l, σ => match ops[i]? with
    | some o =>
      if reads o.op && Region.free .any ops l i && (Region.ready .any ops l).contains i then
        match wantedX o ops σ with
        | some true => match xop T o σ with
          | some (some v, σ1) => match putX nt o.dst v σ1 with
            | some σ2 => dtake T nt ops is (l.setIfInBounds i true) σ2
            | none => none
          | _ => none
        | some false => match putX nt o.dst undefX σ with
          | some σ2 => dtake T nt ops is (l.setIfInBounds i true) σ2
          | none => none
        | none => none
      else none
    | none => none

/-- What is wanted behind a region. -/
def Behind (P : Program) (f : FuncId) (k : List Item) (R : Ending → World → Prop) (e : Exit) (a : Act) (w : World) : Prop :=
  e = .normal ∧ Gets P f k a w R

theorem putX_tl {nt : Nat} {dst : Option Nat} {v : SV} {σ σ' : St} {ρ : Nat → Nat} {a : Act} (h : putX nt dst v σ = some σ') (htl : TRel ρ σ.tl a.tmps) (hs : a.tmps.size = nt) :
    TRel ρ σ'.tl (a.put dst (v.real ρ)).tmps ∧ (a.put dst (v.real ρ)).tmps.size = nt ∧ (a.put dst (v.real ρ)).defers = a.defers ∧ σ'.bs = σ.bs ∧ σ'.ob = σ.ob := by
  unfold putX at h
  split at h
  · cases h; exact ⟨htl, hs, rfl, rfl, rfl⟩
  · rename_i d
    split at h
    · rename_i hd
      cases h
      exact ⟨TRel.put htl d (by rw [hs]; exact hd) v, by simp [Act.put, hs], rfl, rfl, rfl⟩
    · cases h

theorem dtake_ob {T : TypeId → Option TI} {nt : Nat} {ops : Array Oper} : ∀ (is : List Nat) (l l' : Array Bool) (σ σ' : St), dtake T nt ops is l σ = some (l', σ') → ∀ p ∈ σ.ob, p ∈ σ'.ob
  | [], l, l', σ, σ', h, p, hp => by simp only [dtake, Option.some.injEq, Prod.mk.injEq] at h; obtain ⟨_, rfl⟩ := h; exact hp
  | i :: is, l, l', σ, σ', h, p, hp => by
    unfold dtake at h
    split at h
    · rename_i o ho
      split at h
      · split at h
        · split at h
          · rename_i v σ1 hx
            split at h
            · rename_i σ2 hp2
              exact dtake_ob is _ _ _ _ h p (by rw [putX_ob hp2]; exact xop_ob hx hp)
            · cases h
          · cases h
        · split at h
          · rename_i σ2 hp2
            exact dtake_ob is _ _ _ _ h p (by rw [putX_ob hp2]; exact hp)
          · cases h
        · cases h
      · cases h
    · cases h

theorem dgets_take {P : Program} {T : TypeId → Option TI} (hT : Tabs P T) {ε : Env} {nt : Nat} {f : FuncId} {ops : Array Oper} {k : List Item} {R : Ending → World → Prop} {bs : List NB} (hsel : Region.noSelect ops = true) {fuel : Nat} {w : World} (hS : Sees ε bs w) :
    ∀ (is : List Nat) (l l' : Array Bool) (σ σ' : St) (a : Act), dtake T nt ops is l σ = some (l', σ') → σ.bs = bs → TRel ε.ρ σ.tl a.tmps → a.tmps.size = nt → σ'.holds ε →
    (∀ a', TRel ε.ρ σ'.tl a'.tmps → a'.tmps.size = nt → a'.defers = a.defers → wpAnyH P .any ops (Behind P f k R) (Sees ε bs) fuel l' a' w) →
    wpAnyH P .any ops (Behind P f k R) (Sees ε bs) (fuel + is.length) l a w
  | [], l, l', σ, σ', a, h, hb, htl, hs, hob, hK => by
    simp only [dtake, Option.some.injEq, Prod.mk.injEq] at h
    obtain ⟨rfl, rfl⟩ := h
    exact hK a htl hs rfl
  | i :: is, l, l', σ, σ', a, h, hb, htl, hs, hob, hK => by
    have hQ : ∀ c a w (o : Oper) (v : Value), Behind P f k R (.panic c) (a.put o.dst v) w → Behind P f k R (.panic c) a w := fun c a w o v h => by cases h.1
    unfold dtake at h
    split at h
    · rename_i o ho
      split at h
      · rename_i hc
        simp only [Bool.and_eq_true] at hc
        obtain ⟨⟨hr, hf⟩, hrd⟩ := hc
        split at h
        · rename_i hw
          split at h
          · rename_i v σ1 hx
            split at h
            · rename_i σ2 hp2
              have hob1 : σ1.holds ε := fun p hp => hob p (dtake_ob is _ _ _ _ h p (by rw [putX_ob hp2]; exact hp))
              obtain ⟨v', hv', hbs, htl1, _⟩ := xop_read (P := P) (w := w) hT hx hr htl (by rw [hb]; exact hS) hob1
              simp only [Option.some.injEq] at hv'
              subst hv'
              obtain ⟨h1, h2, h3, h4, _⟩ := putX_tl (a := a) hp2 (by rw [htl1]; exact htl) hs
              refine wpAnyH_take ho hsel hf hrd (v := v.real ε.ρ) (fun c a w => hQ c a w o _) (.inl ⟨wantedX_ok hw htl, fun w2 hS2 => ?_⟩) hS ?_
              · obtain ⟨v2, hv2, _, _, hrun⟩ := xop_read (P := P) (w := w2) hT hx hr htl (by rw [hb]; exact hS2) hob1
                simp only [Option.some.injEq] at hv2
                subst hv2
                exact hrun
              · exact dgets_take hT hsel hS is _ _ _ _ _ h (by rw [h4, hbs, hb]) h1 h2 hob (fun a' e1 e2 e3 => hK a' e1 e2 (e3.trans h3))
            · cases h
          · cases h
        · rename_i hw
          split at h
          · rename_i σ2 hp2
            obtain ⟨h1, h2, h3, h4, _⟩ := putX_tl (a := a) hp2 htl hs
            refine wpAnyH_take ho hsel hf hrd (v := undef) (fun c a w => hQ c a w o _) (.inr ⟨wantedX_ok hw htl, rfl⟩) hS ?_
            exact dgets_take hT hsel hS is _ _ _ _ _ h (by rw [h4, hb]) h1 h2 hob (fun a' e1 e2 e3 => hK a' e1 e2 (e3.trans h3))
          · cases h
        · cases h
      · cases h
    · cases h

theorem dgets_done {P : Program} {f : FuncId} {ops : Array Oper} {k : List Item} {R : Ending → World → Prop} {S : World → Prop} {listed : Array Bool} {a : Act} {w : World} (fuel : Nat)
    (hr : Region.ready .any ops listed = []) (h : Gets P f k a w R) : wpAnyH P .any ops (Behind P f k R) S fuel listed a w :=
  wpAnyH_done hr ⟨rfl, h⟩ fuel

theorem gets_draw {P : Program} {f : FuncId} {id : Nat} {ops : Array Oper} {k : List Item} {a : Act} {w : World} {R : Ending → World → Prop} {S : World → Prop} (hm : P.follows .mixedOrders = true)
    (h : wpAnyH P .any ops (Behind P f k R) S ops.size (Array.replicate ops.size false) a { w with drawn := w.drawn + 1 }) : Gets P f (.code (.region id ops true) :: k) a w R := by
  intro cs
  obtain ⟨e, a', w', ⟨he, hg⟩, harr⟩ := wp_region_held hm h (base f) k cs
  subst he
  obtain ⟨e2, w2, fr, hR, hc, hf, hl⟩ := hg cs
  exact ⟨e2, w2, fr, hR, Comes.of_steps harr hc, hf, hl⟩

theorem dgets_call {P : Program} {ε : Env} {f : FuncId} {ops : Array Oper} {k : List Item} {σ : St} {a : Act} {w : World} {R Sp : Ending → World → Prop} {S : World → Prop} {c : CallX} {fuel : Nat} {listed : Array Bool} {i : Nat}
    (htl : TRel ε.ρ σ.tl a.tmps) (hr : Region.ready .any ops listed = [i]) (hx : callX [.inRegion ops [i]] σ = some c) (he : enters P c.fn = true) (hcall : Calls P c.fn (c.real ε.ρ) w Sp)
    (h : ∀ e w', Sp e w' → ∃ v, e = .returned v ∧ S w' ∧ wpAnyH P .any ops (Behind P f k R) S fuel (listed.setIfInBounds i true) (a.put (dstX [.inRegion ops [i]]) v) w') :
    wpAnyH P .any ops (Behind P f k R) S (fuel + 1) listed a w := by
  refine wpAnyH_all hr (by simp) (fun j hj => ?_)
  simp only [List.mem_singleton] at hj
  subst hj
  unfold callX at hx
  simp only at hx
  split at hx
  · rename_i dst g args at0 ty pos after gd ho
    have key : ∀ (fn : FuncId) (capv : Array Value) (l : List E), wantedX ⟨none, .move g, 0, default, #[], gd⟩ ops σ = some true → a.eval g = .func (.func fn) #[] capv → evArgs σ args.toList = some l →
        c.fn = fn → c.real ε.ρ = (l.map (E.real ε.ρ)).toArray ++ capv →
        wpOp P ops (Behind P f k R) j (fun a' w' => S w' ∧ wpAnyH P .any ops (Behind P f k R) S fuel (listed.setIfInBounds j true) a' w') a w := by
      intro fn capv l hw hg hl hfn hreal
      have hw' : Region.wanted ⟨dst, .call ⟨.value g, args, at0⟩, ty, pos, after, gd⟩ (yielded ops a.tmps) = true := wantedX_ok hw htl
      have hargs : args.map a.eval = (l.map (E.real ε.ρ)).toArray := by apply Array.ext'; simpa using evArgs_ok htl hl
      have hrun : (execOp a.eval ⟨dst, .call ⟨.value g, args, at0⟩, ty, pos, after, gd⟩).run P w = .ok (.enter fn (c.real ε.ρ)) w := by
        have := run_callFunc (hfn ▸ he) ((l.map (E.real ε.ρ)).toArray ++ capv) w
        simp only [execOp, resolve, hg, hargs, Deferred.ofValue, Sem.run_bind, Sem.run_pure, Result.andThen_ok, invoke, Array.empty_append, this, hreal]
      unfold wpOp
      simp only [ho, hw', if_true]
      refine .inl ?_
      unfold Oper.wp
      rw [hrun]
      simp only [Oper.upon]
      rw [← hfn]
      refine Calls.mono hcall fun e w' hSp => ?_
      obtain ⟨v, rfl, hS, hK⟩ := h e w' hSp
      have hd : dstX [.inRegion ops [j]] = dst := by simp [dstX, ho]
      rw [hd] at hK
      exact ⟨hS, hK⟩
    split at hx
    · rename_i fn caps l hw hg hl
      cases hx
      exact key fn _ l hw (evC_ok htl hg) hl rfl (by simp [CallX.real])
    · rename_i fn capv l hw hg hl
      cases hx
      exact key fn _ l hw (evC_ok htl hg) hl rfl (by simp [CallX.real])
    · cases hx
  · cases hx

/-- An operation that makes or writes memory, where it alone may come up. -/
theorem dgets_op {P : Program} {T : TypeId → Option TI} (hT : Tabs P T) {ε : Env} {nt : Nat} {f : FuncId} {ops : Array Oper} {k : List Item} {σ σ1 σ2 : St} {a : Act} {w : World} {R : Ending → World → Prop} {S : World → Prop} {fuel : Nat} {listed : Array Bool} {i : Nat} {o : Oper} {r : Option SV}
    (hc : CRel ε nt σ a w) (hr : Region.ready .any ops listed = [i]) (ho : ops[i]? = some o) (hw : wantedX o ops σ = some true) (hx : xop T o σ = some (r, σ1)) (hp : putX nt o.dst (r.getD undefX) σ1 = some σ2) (hob : σ2.holds ε)
    (h : ∀ a' w', CRel ε nt σ2 a' w' → S w' ∧ wpAnyH P .any ops (Behind P f k R) S fuel (listed.setIfInBounds i true) a' w') :
    wpAnyH P .any ops (Behind P f k R) S (fuel + 1) listed a w := by
  refine wpAnyH_all hr (by simp) (fun j hj => ?_)
  simp only [List.mem_singleton] at hj
  subst hj
  have hob1 : σ1.holds ε := fun p hp' => hob p (by rw [putX_ob hp]; exact hp')
  obtain ⟨htl, w', hrel, hrun⟩ := xop_ok hT hx hc.tl hc.mem hob1
  have hc1 : CRel ε nt σ1 a w' := ⟨by rw [htl]; exact hc.tl, hc.size, hc.defers, hrel⟩
  obtain ⟨h1, _⟩ := putX_ok hp hc1
  have hw' := wantedX_ok hw hc.tl
  unfold wpOp
  simp only [ho, hw', if_true]
  refine .inl ?_
  unfold Oper.wp
  rw [hrun]
  have := h _ _ h1
  cases r with
  | none => exact this
  | some v => exact this

theorem Sees.drew {ε : Env} {bs : List NB} {w : World} (h : Sees ε bs w) (n : Nat) : Sees ε bs { w with drawn := n } := ⟨h.cells, h.ro⟩
theorem Rel.drew {ε : Env} {bs : List NB} {w : World} (h : Rel ε bs w) (n : Nat) : Rel ε bs { w with drawn := n } :=
  ⟨h.cells, h.inj, h.n0, h.size, h.new, h.old, h.keep, h.ro, h.os, h.tape, h.output⟩

/- A NEW REACH OF NAMES, BEHIND A CALL -/

/-- No names at all: what lies in the memory now is old. -/
def fresh (w : World) : Env := ⟨fun i => w.heap.size + i, 0, w, fun _ => none⟩

theorem CRel.fresh {nt : Nat} {a : Act} {w : World} (hs : a.tmps.size = nt) (hd : a.defers = []) : CRel (fresh w) nt { tl := [], bs := [] } a w :=
  ⟨fun _ _ h => (by cases h), hs, hd, ⟨fun _ _ h => (by simp at h), fun _ _ h => (by simp at h), Nat.le_refl _, (by simp [Go.Proofs.YtoihipolfdhhnaaGreatDoor.fresh]), fun _ _ => rfl, fun _ h => (by cases h), fun _ _ _ => rfl, fun _ _ h => (by cases h), rfl, rfl, rfl⟩⟩

def C.below (n : Nat) : C → Bool
  | .p b _ => b < n
  | .nsl b _ _ _ => b < n
  | .f _ caps => caps.all fun | .n b _ => b < n | .r _ => true
  | _ => true
def E.below (n : Nat) : E → Bool
  | .c x => x.below n
  | .a l => l.all (C.below n)
def SV.below (n : Nat) : SV → Bool
  | .e x => x.below n
  | .t l => l.all (E.below n)

theorem C.real_below {ρ ρ' : Nat → Nat} {n : Nat} (hρ : ∀ i, i < n → ρ' i = ρ i) {x : C} (h : x.below n = true) : x.real ρ' = x.real ρ := by
  cases x <;> simp only [C.below, decide_eq_true_eq] at h <;> simp only [C.real]
  · rw [hρ _ h]
  · rename_i fn caps
    congr 2
    apply List.map_congr_left
    intro p hp
    have := List.all_eq_true.1 h p hp
    cases p with
    | n b o => simp only [decide_eq_true_eq] at this; simp only [PP.real, hρ _ this]
    | r a => rfl
  · rw [hρ _ h]

theorem E.real_below {ρ ρ' : Nat → Nat} {n : Nat} (hρ : ∀ i, i < n → ρ' i = ρ i) {x : E} (h : x.below n = true) : x.real ρ' = x.real ρ := by
  cases x with
  | c x => exact C.real_below hρ h
  | a l =>
    simp only [E.real]
    congr 2
    apply List.map_congr_left
    intro p hp
    exact C.real_below hρ (List.all_eq_true.1 h p hp)

theorem SV.real_below {ρ ρ' : Nat → Nat} {n : Nat} (hρ : ∀ i, i < n → ρ' i = ρ i) {x : SV} (h : x.below n = true) : x.real ρ' = x.real ρ := by
  cases x with
  | e x => exact E.real_below hρ h
  | t l =>
    simp only [SV.real]
    congr 2
    apply List.map_congr_left
    intro p hp
    exact E.real_below hρ (List.all_eq_true.1 h p hp)

/-- Behind a call: the same names, the same slots, a new base; the named blocks as they are now. -/
def Env.next (ε : Env) (n : Nat) (w : World) (ro : Addr → Option Value) : Env := ⟨fun i => if i < n then ε.ρ i else w.heap.size + (i - n), n, w, ro⟩

theorem CRel.next {ε : Env} {nt : Nat} {tl : List (Nat × SV)} {bs' : List NB} {a : Act} {w' : World} (n : Nat) (ro : Addr → Option Value)
    (htl : TRel ε.ρ tl a.tmps) (hs : a.tmps.size = nt) (hd : a.defers = []) (hn : bs'.length = n)
    (hinj : ∀ i j, i < n → j < n → ε.ρ i = ε.ρ j → i = j)
    (hc : ∀ i b, bs'[i]? = some b → w'.heap[ε.ρ i]? = some (.cells (b.cs.map (C.real ε.ρ)).toArray b.ty (0, 0)))
    (hro : ∀ a v, ro a = some v → w'.cell? a = some v ∧ ∀ i, i < n → ε.ρ i ≠ a.block)
    (hb : (tl.all fun x => x.2.below n) = true) (hb' : (bs'.all fun b => b.cs.all (C.below n)) = true) : CRel (ε.next n w' ro) nt { tl := tl, bs := bs' } a w' := by
  have hρ : ∀ i, i < n → (ε.next n w' ro).ρ i = ε.ρ i := fun i hi => by simp [Env.next, hi]
  have hlt : ∀ i, i < n → ε.ρ i < w'.heap.size := by
    intro i hi
    have h1 := hc i (bs'[i]'(by omega)) (List.getElem?_eq_getElem (by omega))
    rcases Nat.lt_or_ge (ε.ρ i) w'.heap.size with h2 | h2
    · exact h2
    · rw [Array.getElem?_eq_none h2] at h1; cases h1
  refine ⟨?_, hs, hd, ⟨?_, ?_, by simp [Env.next, hn], by simp [Env.next, hn], fun i hi => ?_, fun i hi => ?_, fun k _ _ => rfl, fun ad v hv => ?_, rfl, rfl, rfl⟩⟩
  · intro d v h
    have h1 := htl d v h
    have hv : v.below n = true := by
      have : (d, v) ∈ tl := by
        clear hb htl h1
        induction tl with
        | nil => cases h
        | cons x l ih =>
          obtain ⟨x1, x2⟩ := x
          simp only [lk] at h
          split at h
          · rename_i e; cases h; subst e; simp
          · exact List.mem_cons_of_mem _ (ih h)
      exact List.all_eq_true.1 hb _ this
    rw [h1, SV.real_below hρ hv]
  · intro i b h
    have hi : i < n := by rw [← hn]; exact (List.getElem?_eq_some_iff.1 h).1
    rw [hρ i hi, hc i b h]
    congr 3
    apply List.map_congr_left
    intro c hcm
    have := List.all_eq_true.1 hb' b (List.mem_of_getElem? h)
    exact (C.real_below hρ (List.all_eq_true.1 this c hcm)).symm
  · intro i j hi hj e
    rw [hn] at hi hj
    rw [hρ i hi, hρ j hj] at e
    exact hinj i j hi hj e
  · simp only [Env.next] at hi ⊢
    rw [if_neg (by omega)]
  · simp only [Env.next] at hi ⊢
    rw [if_pos hi]; exact hlt i hi
  · obtain ⟨h1, h2⟩ := hro ad v hv
    refine ⟨h1, fun i hi => ?_⟩
    rw [hn] at hi
    rw [hρ i hi]; exact h2 i hi

end Go.Proofs.YtoihipolfdhhnaaGreatDoor
