/-
  Calls of functions that leave all old memory as it was; what may be said behind them.
-/
import Derived.Test.YtoihipolfdhhnaaGreatDoorTail
namespace Go.Proofs.YtoihipolfdhhnaaGreatDoor

/-- Only new blocks have come. -/
structure New (w w' : World) : Prop where
  os : w'.os = w.os
  tape : w'.tape = w.tape
  output : w'.output = w.output
  size : w.heap.size ≤ w'.heap.size
  block : ∀ k, k < w.heap.size → w'.heap[k]? = w.heap[k]?

theorem New.refl (w : World) : New w w := ⟨rfl, rfl, rfl, Nat.le_refl _, fun _ _ => rfl⟩
theorem New.trans {a b c : World} (h : New a b) (k : New b c) : New a c :=
  ⟨k.os.trans h.os, k.tape.trans h.tape, k.output.trans h.output, Nat.le_trans h.size k.size, fun i hi => (k.block i (Nat.lt_of_lt_of_le hi h.size)).trans (h.block i hi)⟩
theorem New.keep {w w' : World} (h : New w w') (B : Bd) : Keep B w w' := ⟨h.os, h.tape, h.output, h.size, fun k hk _ => h.block k hk⟩

theorem MOk.fresh {B : Bd} {w w' : World} {b : Nat} {m : M} (hm : MOk B w b m) (hn : New w w') : MOk B w' b m ∧ Evo w b w' := by
  have hm0 := hm
  obtain ⟨a, n, c, th, row, hm⟩ := hm
  have hcell : w'.cell? ⟨b, 3, none⟩ = w.cell? ⟨b, 3, none⟩ := World.cell?_of_block (hn.block b (lt_of_block hm.cells))
  have hevo : Evo w b w' := by
    refine ⟨hn.os, hn.tape, hn.output, hn.size, fun k hk _ => hn.block k hk, fun k ho => ?_⟩
    rcases ho with ho | ⟨n', c', ho⟩
    · exact .inl (.inl ho)
    · exact .inl (.inr ⟨n', c', by rw [← hcell]; exact ho⟩)
  have hkeep := hevo.keep hm0
  refine ⟨⟨a, n, c, th, row, hm.base, ?_, ?_, hm.todo.mono (fun x y hx => hx.keep hkeep), hm.len, thn_keep hm.thn hkeep, hm.glob.keep hkeep⟩, hevo⟩
  · rw [hn.block b (lt_of_block hm.cells)]; exact hm.cells
  · obtain ⟨h1, h2⟩ := hm.owns
    refine ⟨h1, ?_⟩
    rcases h2 with h2 | ⟨g, cap, cur, h3, h4, h5, h6⟩
    · exact .inl h2
    · exact .inr ⟨g, cap, cur, h3, h4, by rw [hn.block g (lt_of_block h5)]; exact h5, h6⟩

/-- All names are of blocks newer than w, and what was there in w is as it was at the names' base. -/
structure Over (w : World) (ε : Env) : Prop where
  new : New w ε.wb
  names : ∀ i, i < ε.n0 → w.heap.size ≤ ε.ρ i

theorem Over.env (w : World) (ro : Addr → Option Value) : Over w (env w [] ro) := ⟨New.refl w, fun i hi => by simp [Go.Proofs.YtoihipolfdhhnaaGreatDoor.env] at hi⟩

theorem Over.rel {w w' : World} {ε : Env} {bs : List NB} (h : Over w ε) (hr : Rel ε bs w') : New w w' :=
  ⟨hr.os.trans h.new.os, hr.tape.trans h.new.tape, hr.output.trans h.new.output, by have := hr.size; have := h.new.size; omega,
    fun k hk => (hr.keep k (Nat.lt_of_lt_of_le hk h.new.size) (fun i hi => by have := h.names i hi; omega)).trans (h.new.block k hk)⟩

theorem Over.next {w w1 w2 : World} {ε : Env} {bs : List NB} (h : Over w ε) (hr : Rel ε bs w1) (hn : New w1 w2) (ro : Addr → Option Value) : Over w (ε.next bs.length w2 ro) := by
  refine ⟨(h.rel hr).trans hn, fun i hi => ?_⟩
  have hi' : i < bs.length := hi
  simp only [Env.next, if_pos hi']
  rcases Nat.lt_or_ge i ε.n0 with h1 | h1
  · exact h.names i h1
  · rw [hr.new i h1]; have := h.new.size; omega

theorem Over.above {w w' : World} {ε : Env} {bs : List NB} (h : Over w ε) (hr : Rel ε bs w') {i : Nat} (_ : i < bs.length) : w.heap.size ≤ ε.ρ i := by
  rcases Nat.lt_or_ge i ε.n0 with h1 | h1
  · exact h.names i h1
  · rw [hr.new i h1]; have := h.new.size; omega

/-- The same names, the same blocks: the same memory. -/
theorem Rel.same {ε : Env} {bs : List NB} {w w' : World} (h : Rel ε bs w) (h' : Rel ε bs w') : New w w' := by
  refine ⟨h'.os.trans h.os.symm, h'.tape.trans h.tape.symm, h'.output.trans h.output.symm, by rw [h.size, h'.size]; exact Nat.le_refl _, fun k hk => ?_⟩
  by_cases hn : ∃ i, i < bs.length ∧ ε.ρ i = k
  · obtain ⟨i, hi, rfl⟩ := hn
    rw [h.cells i _ (List.getElem?_eq_getElem hi), h'.cells i _ (List.getElem?_eq_getElem hi)]
  · have hlt : k < ε.wb.heap.size := by
      rcases Nat.lt_or_ge k ε.wb.heap.size with h1 | h1
      · exact h1
      · have := h.size
        have h0 := h.n0
        exact absurd ⟨ε.n0 + (k - ε.wb.heap.size), by omega, by rw [h.new _ (by omega)]; omega⟩ hn
    have hno : ∀ i, i < ε.n0 → ε.ρ i ≠ k := fun i hi e => hn ⟨i, Nat.lt_of_lt_of_le hi h.n0, e⟩
    rw [h.keep k hlt hno, h'.keep k hlt hno]

/-- A call that makes new blocks at most. -/
theorem gets_pure {P : Program} {ε : Env} {nt : Nat} {f : FuncId} {k : List Item} {σ : St} {a : Act} {w : World} {R : Ending → World → Prop} {c : CallX} {Q : World → Prop} (d : Nat) (v : SV) (orc : List Bool) (ext : List SV)
    (hc : CRel ε nt σ a w) (hx : callX k σ = some c) (he : enters P c.fn = true) (hd : dstX k = some d) (hdn : Nat.blt d nt = true)
    (hcall : Calls P c.fn (c.real ε.ρ) w fun e w' => e = .returned (v.real ε.ρ) ∧ New w w' ∧ Q w')
    (hb : (((d, v) :: σ.tl).all fun x => x.2.below σ.bs.length) = true) (hb' : (σ.bs.all fun b => b.cs.all (C.below σ.bs.length)) = true)
    (h : ∀ a' w', New w w' → Q w' → CRel (ε.next σ.bs.length w' ε.ro) nt { tl := (d, v) :: σ.tl, bs := σ.bs, orc := orc, ext := ext } a' w' → Gets P f (popX k) a' w' R) : Gets P f k a w R := by
  refine gets_call hc hx he hcall (fun e w' ⟨h1, h2, h3⟩ => ⟨_, h1, ?_⟩)
  rw [hd]
  refine h _ w' h2 h3 ?_
  have hlt : ∀ i b, σ.bs[i]? = some b → ε.ρ i < w.heap.size := fun i b hi => lt_of_block (hc.mem.cells i b hi)
  have := CRel.next (ε := ε) (nt := nt) (tl := (d, v) :: σ.tl) (bs' := σ.bs) (a := a.put (some d) (v.real ε.ρ)) (w' := w') σ.bs.length ε.ro (hc.tl.lay hc.size d hdn v rfl) (by rw [Act.put_size]; exact hc.size) (by rw [Act.put_defers']; exact hc.defers) rfl hc.mem.inj
    (fun i b hi => by rw [h2.block _ (hlt i b hi)]; exact hc.mem.cells i b hi)
    (fun ad u hu => ⟨by obtain ⟨h4, _⟩ := hc.mem.ro ad u hu; rw [World.cell?_of_block (h2.block _ (World.block_lt_of_cell? w ad h4))]; exact h4, (hc.mem.ro ad u hu).2⟩) hb hb'
  exact ⟨this.tl, this.size, this.defers, this.mem⟩

def AllT (ρ ρ' : Nat → Nat) (tl : List (Nat × SV)) : List (Nat × SV) → Prop
  | [] => True
  | x :: l => (lk x.1 tl).map (SV.real ρ) = some (x.2.real ρ') ∧ AllT ρ ρ' tl l

/-- The names forgotten. -/
theorem CRel.anew {ε : Env} {nt : Nat} {σ : St} {a : Act} {w : World} (hc : CRel ε nt σ a w) (B : Bd) (tl : List (Nat × SV)) (orc : List Bool) (ext : List SV) (h : AllT ε.ρ (env0 B w).ρ σ.tl tl) :
    CRel (env0 B w) nt { tl := tl, bs := [], orc := orc, ext := ext } a w := by
  refine ⟨fun d v hd => ?_, hc.size, hc.defers, rel_nil w _ (fun _ _ h => (sro_le h).2)⟩
  simp only at hd
  induction tl with
  | nil => cases hd
  | cons x l ih =>
    obtain ⟨x1, x2⟩ := x
    simp only [lk] at hd
    split at hd
    · rename_i e
      cases hd
      subst e
      obtain ⟨h1, _⟩ := h
      simp only at h1
      cases hv : lk x1 σ.tl with
      | none => rw [hv] at h1; cases h1
      | some v' =>
        rw [hv] at h1
        simp only [Option.map_some, Option.some.injEq] at h1
        rw [← h1]
        exact hc.tl x1 v' hv
    · exact ih h.2 hd

/-- The last call, where the names are all new. -/
theorem gets_last {B : Bd} {b : Nat} {w0 w : World} {m m' : M} {ε : Env} {nt : Nat} {f : FuncId} {fn : Func} {k : List Item} {σ : St} {a : Act} {bs : List NB} {c : CallX} (hm : MOk B w0 b m) (hov : Over w0 ε)
    (hc : CRel ε nt σ a w) (hbs : σ.bs = bs) (hx : callX k σ = some c) (he : enters Tryz.prog c.fn = true) (hf : Tryz.prog.funcs[f]? = some fn) (hr : fn.results = #[]) (hk : isFin (ctl 30 (popX k)) = true)
    (hcall : Rel ε bs w → MOk B w b m → Keep B w0 w → Calls Tryz.prog c.fn (c.real ε.ρ) w (Does B b w m')) : Gets Tryz.prog f k a w (Does B b w0 m') := by
  have hn := hov.rel hc.mem
  obtain ⟨hm1, he1⟩ := hm.fresh hn
  exact gets_tail (fun w' => MOk B w' b m' ∧ Evo w b w') hc hx he (hcall (hbs ▸ hc.mem) hm1 (hn.keep B)) hf hr hk (fun w' h => ⟨rfl, h.1, he1.trans h.2⟩)

theorem gets_evo {B : Bd} {b : Nat} {w w1 w2 : World} {m : M} {f : FuncId} {k : List Item} {a : Act} (he : Evo w b w1) (h : Gets Tryz.prog f k a w2 (Does B b w1 m)) : Gets Tryz.prog f k a w2 (Does B b w m) := by
  intro cs
  obtain ⟨e', w', fr, hD, hrest⟩ := h cs
  exact ⟨e', w', fr, Does.evo he hD, hrest⟩

theorem rel1 {w : World} {kr : Nat} {cs : List C} {T : TypeId} (hkr : w.heap[kr]? = some (.cells (plainR cs) T (0, 0))) (hcs : cs.all (C.below 0) = true) : Rel (env w [kr] noRo) [⟨T, cs⟩] w := by
  refine rel_start rfl ?_ ?_ (fun ad v hv => by cases hv)
  · intro i j k hi hj
    match i, j, hi, hj with
    | 0, 0, _, _ => rfl
    | i + 1, _, hi, _ => simp at hi
    | 0, j + 1, _, hj => simp at hj
  · intro i nb k hi hk
    match i, hi, hk with
    | 0, hi, hk =>
      simp only [List.getElem?_cons_zero, Option.some.injEq] at hi hk
      subst hi; subst hk
      rw [map_plain _ hcs]
      exact hkr
    | i + 1, hi, _ => simp at hi

theorem CRel.pickx {ε : Env} {nt : Nat} {σ : St} {a : Act} {w : World} (hc : CRel ε nt σ a w) (tl : List (Nat × SV)) (bs : List NB) (orc : List Bool)
    (h1 : tl.map (fun x => lk x.1 σ.tl) = tl.map (fun x => some x.2)) (h2 : σ.bs = bs) : CRel ε nt { tl := tl, bs := bs, orc := orc } a w :=
  ⟨(hc.pick tl bs h1 h2).tl, hc.size, hc.defers, h2 ▸ hc.mem⟩

theorem CRel.feed {ε : Env} {nt : Nat} {σ : St} {a : Act} {w : World} (hc : CRel ε nt σ a w) (orc : List Bool) (ext : List SV) : CRel ε nt { tl := σ.tl, bs := σ.bs, orc := orc, ext := ext } a w :=
  ⟨hc.tl, hc.size, hc.defers, hc.mem⟩

/-- A function that comes to a value, with new blocks at most. -/
def Gives (v : Value) (Q : World → Prop) (w : World) (e : Ending) (w' : World) : Prop := e = .returned v ∧ New w w' ∧ Q w'

/-- Own work, a call that makes new blocks at most, own work, one call. -/
theorem gives_end {B : Bd} {w : World} {f : FuncId} {fn : Func} {vals : Array Value} {v : Value} {Q : World → Prop} {l : List E} (args : List SV) (orc : List Bool) (ext : List SV) (n : Nat) (bs : List NB) {obs : List (Env → Prop)}
    (hf : Tryz.prog.funcs[f]? = some fn) (hb : fn.body.isSome = true) (hle : Nat.ble args.length fn.ntmps = true) (hvals : vals = (args.map (SV.real (env0 B w).ρ)).toArray)
    (ho : (run Tab fn.ntmps n (code fn) (ini args orc ext)).2.ob = obs) (hbs : (run Tab fn.ntmps n (code fn) (ini args orc ext)).2.bs = bs)
    (hk : isFin (run Tab fn.ntmps n (code fn) (ini args orc ext)).1 = true) (hr : resXs Tab (run Tab fn.ntmps n (code fn) (ini args orc ext)).2 fn.results.toList = some l)
    (hobs : AllP obs (env0 B w)) (hv : v = (retX l).real (env0 B w).ρ) (hQ : ∀ w1, Rel (env0 B w) bs w1 → Q w1) : Calls Tryz.prog f vals w (Gives v Q w) := by
  refine enter tab_ok args orc ext n hf hb hle hvals ho hobs (fun a1 w1 hc1 => ?_)
  have hmem := hc1.mem
  rw [hbs] at hmem
  exact gets_fin tab_ok hc1 hf hk hr ⟨by rw [hv], (Over.env w _).rel hmem, hQ w1 hmem⟩

end Go.Proofs.YtoihipolfdhhnaaGreatDoor
