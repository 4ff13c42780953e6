/-
  The contracts of the machine's own small steps: Sys, Exit, Push.
-/
import Derived.Test.YtoihipolfdhhnaaGreatDoorBase
namespace Go.Proofs.YtoihipolfdhhnaaGreatDoor

theorem MAt.rel {B : Bd} {w : World} {b : Nat} {m : M} {a : Option Addr} {n c : Nat} {th : Option (FuncId × Array Value)} {row : List (FuncId × Array Value)} (h : MAt B w b m a n c th row)
    (ro : Addr → Option Value) (hro : ∀ ad v, ro ad = some v → w.cell? ad = some v ∧ ad.block ≠ b) : Rel (env w [b] ro) [⟨66, mcells m.prog m.status a n c (thnC th) m.call m.over⟩] w := by
  refine rel_start rfl ?_ ?_ (fun ad v hv => by obtain ⟨h1, h2⟩ := hro ad v hv; exact ⟨h1, by simpa using h2⟩)
  · intro i j k hi hj
    cases i with
    | zero => cases j with
      | zero => rfl
      | succ j => simp at hj
    | succ i => simp at hi
  · intro i nb k hi hk
    cases i with
    | zero =>
      simp only [List.getElem?_cons_zero, Option.some.injEq] at hi hk
      subst hi; subst hk
      rw [map_plain _ (mcells_below _ _ _ _ _ _ _ _)]
      exact h.cells
    | succ i => simp at hi

theorem evo_of_rel {B : Bd} {w w' : World} {b : Nat} {m m' : M} {a : Option Addr} {n c : Nat} {th th' : Option (FuncId × Array Value)} {row : List (FuncId × Array Value)} {bs : List NB} {ro : Addr → Option Value}
    (h : MAt B w b m a n c th row) (hrel : Rel (env w [b] ro) bs w') (hb : bs[0]? = some ⟨66, mcells m'.prog m'.status a n c (thnC th') m'.call m'.over⟩) : Evo w b w' := by
  have hw' : w'.heap[b]? = some (.cells (plainR (mcells m'.prog m'.status a n c (thnC th') m'.call m'.over)) 66 (0, 0)) := by
    have := hrel.cells 0 _ hb
    rw [map_plain _ (mcells_below _ _ _ _ _ _ _ _)] at this
    exact this
  have hcell : w'.cell? ⟨b, 3, none⟩ = some (.slice a n c) := by simp [World.cell?, hw', plainR, mcells, C.real]
  refine ⟨hrel.os, hrel.tape, hrel.output, ?_, ?_, ?_⟩
  · rw [hrel.size]; exact Nat.le_add_right _ _
  · intro k hk ho
    refine hrel.keep k hk (fun i hi e => ho ?_)
    have : i = 0 := by simp only [env, List.length_cons, List.length_nil] at hi; omega
    subst this
    exact .inl e.symm
  · intro k ho
    rcases ho with ho | ⟨n', c', ho⟩
    · exact .inl (.inl ho)
    · rw [hcell] at ho
      simp only [Option.some.injEq, Value.slice.injEq] at ho
      exact .inl ((h.own k).2 (.inr ho.1))

theorem MAt.after {B : Bd} {w w' : World} {b : Nat} {m m' : M} {a : Option Addr} {n c : Nat} {th th' : Option (FuncId × Array Value)} {row : List (FuncId × Array Value)} {bs : List NB} {ro : Addr → Option Value}
    (h : MAt B w b m a n c th row) (hrel : Rel (env w [b] ro) bs w') (hb : bs[0]? = some ⟨66, mcells m'.prog m'.status a n c (thnC th') m'.call m'.over⟩) (ht : m'.todo = m.todo)
    (hth : ThnOk B w' m'.thn th') : MOk B w' b m' ∧ Evo w b w' := by
  have hevo := evo_of_rel h hrel hb
  have hkeep := hevo.keep ⟨a, n, c, th, row, h⟩
  have hw' : w'.heap[b]? = some (.cells (plainR (mcells m'.prog m'.status a n c (thnC th') m'.call m'.over)) 66 (0, 0)) := by
    have := hrel.cells 0 _ hb
    rw [map_plain _ (mcells_below _ _ _ _ _ _ _ _)] at this
    exact this
  refine ⟨⟨a, n, c, th', row, h.base, hw', ?_, ?_, h.len, hth, h.glob.keep hkeep⟩, hevo⟩
  · obtain ⟨h1, h2⟩ := h.owns
    refine ⟨h1, ?_⟩
    rcases h2 with h2 | ⟨g, cap, cur, h3, h4, h5, h6⟩
    · exact .inl h2
    · refine .inr ⟨g, cap, cur, h3, h4, ?_, h6⟩
      have hgb : g ≠ b := by
        rintro rfl
        rw [h.cells] at h5
        simp only [Option.some.injEq, Obj.cells.injEq] at h5
        exact absurd h5.2.1 (by decide)
      rw [hrel.keep g (lt_of_block h5) (fun i hi e => by
        have : i = 0 := by simp only [env, List.length_cons, List.length_nil] at hi; omega
        subst this
        exact hgb e.symm)]
      exact h5
  · rw [ht]; exact h.todo.mono (fun x y hx => hx.keep hkeep)

/-- Sys: the call, and what follows. -/
theorem sys_calls {B : Bd} {w : World} {b : Nat} {m : M} (hm : MOk B w b m) (cd : CallD) (t : Rn) (f : FuncId) (c : Array Value) (ht : RepR B w t f c) :
    Calls Tryz.prog 69 #[bp b, .agg (plainR cd.cs), .func (.func f) #[] c] w (Does B b w (m.sys cd t)) := by
  obtain ⟨a, n, cp, th, row, hm⟩ := hm
  refine calls_exec [.e (.c (.p 0 0)), .e (.a cd.cs), .e (.c (.fv f c))] [b] [⟨66, mcells m.prog m.status a n cp (thnC th) m.call m.over⟩] noRo Tryz.func69 rfl rfl rfl (hm.rel noRo (fun _ _ h => by cases h)) ?_
  intro a0 hc
  refine gets_run tab_ok 40 hc (holds_of (obs := []) (by kernel_rfl) trivial) (fun a' w' hc' => ?_)
  refine gets_fin tab_ok (l := []) hc' Tryz.func69 (by kernel_rfl) (by kernel_rfl) ?_
  have hk := (evo_of_rel (m' := { m with call := cd, thn := some t }) (th' := some (f, c)) hm hc'.mem (by kernel_rfl)).keep ⟨a, n, cp, th, row, hm⟩
  obtain ⟨h1, h2⟩ := hm.after (m' := { m with call := cd, thn := some t }) (th' := some (f, c)) hc'.mem (by kernel_rfl) rfl (ht.keep hk)
  exact ⟨rfl, h1, h2⟩

/-- Exit. -/
theorem exit_calls {B : Bd} {w : World} {b : Nat} {m : M} (hm : MOk B w b m) (k : Int) : Calls Tryz.prog 24 #[bp b, .int .i64 k] w (Does B b w (m.exit k)) := by
  obtain ⟨a, n, cp, th, row, hm⟩ := hm
  refine calls_exec [.e (.c (.p 0 0)), .e (.c (.int .i64 k))] [b] [⟨66, mcells m.prog m.status a n cp (thnC th) m.call m.over⟩] noRo Tryz.func24 rfl rfl rfl (hm.rel noRo (fun _ _ h => by cases h)) ?_
  intro a0 hc
  refine gets_run tab_ok 40 hc (holds_of (obs := []) (by kernel_rfl) trivial) (fun a' w' hc' => ?_)
  refine gets_fin tab_ok (l := []) hc' Tryz.func24 (by kernel_rfl) (by kernel_rfl) ?_
  have hk := (evo_of_rel (m' := m.exit k) (th' := th) hm hc'.mem (by kernel_rfl)).keep ⟨a, n, cp, th, row, hm⟩
  have hth : ThnOk B w' (m.exit k).thn th := by
    have := hm.thn
    show ThnOk B w' m.thn th
    cases hm1 : m.thn <;> cases th <;> simp only [hm1, ThnOk] at this ⊢
    exact this.keep hk
  obtain ⟨h1, h2⟩ := hm.after (m' := m.exit k) (th' := th) hc'.mem (by kernel_rfl) rfl hth
  exact ⟨rfl, h1, h2⟩

theorem info84 : (Tryz.prog.info? 84).map (fun i => (i.zero.map fun z => z.cells, i.size, i.bytes)) = some (some #[.nilFunc, .bool false], 2, 16) := by kernel_rfl

theorem thn_keep {B : Bd} {w w' : World} {t : Option Rn} {th : Option (FuncId × Array Value)} (h : ThnOk B w t th) (hk : Keep B w w') : ThnOk B w' t th := by
  cases t <;> cases th <;> simp only [ThnOk] at h ⊢
  exact h.keep hk

/-- Push. -/
theorem push_calls {B : Bd} {w : World} {b : Nat} {m : M} (hm : MOk B w b m) (hl : m.todo.length ≤ 1000000) (hB : B ≤ w.heap.size) (k : Fn) (f : FuncId) (c : Array Value) (hk : RepF B w k f c) :
    Calls Tryz.prog 22 #[bp b, .func (.func f) #[] c] w (Does B b w (m.push k)) := by
  have hm0 := hm
  obtain ⟨a, n, cp, th, row, hm⟩ := hm
  refine calls_exec [.e (.c (.p 0 0)), .e (.c (.fv f c))] [b] [⟨66, mcells m.prog m.status a n cp (thnC th) m.call m.over⟩] noRo Tryz.func22 rfl rfl rfl (hm.rel noRo (fun _ _ h => by cases h)) ?_
  intro a0 hc
  refine gets_run tab_ok 40 hc (holds_of (obs := []) (by kernel_rfl) trivial) (fun a1 w1 hc1 => ?_)
  -- the row in the world behind the literal
  replace hc1 := hc1.pick [(8, .e (.c (.sl a n cp))), (11, .e (.c (.nsl 1 0 1 1))), (4, .e (.c (.p 0 0)))] [⟨66, mcells m.prog m.status a n cp (thnC th) m.call m.over⟩, ⟨84, [.fv f c, .bool false]⟩] (by kernel_rfl) (by kernel_rfl)
  have hrel1 := hc1.mem
  have hown1 : w1.ownsRow B 84 2 (.slice a n cp) n (row.flatMap stepV) := by
    obtain ⟨h1, h2⟩ := hm.owns
    refine ⟨h1, ?_⟩
    rcases h2 with h2 | ⟨g, cap, cur, h3, h4, h5, h6⟩
    · exact .inl h2
    · refine .inr ⟨g, cap, cur, h3, h4, ?_, h6⟩
      rw [hrel1.keep g (lt_of_block h5) (fun i hi e => by
        have : i = 0 := by simp only [env, List.length_cons, List.length_nil] at hi; omega
        subst this
        have e' : b = g := e
        subst e'
        rw [hm.cells] at h5
        simp only [Option.some.injEq, Obj.cells.injEq] at h5
        exact absurd h5.2.1 (by decide))]
      exact h5
  have hnb : (env w [b] noRo).ρ 1 = w.heap.size := by simp [env]
  have hcell1 : w1.heap[w.heap.size]? = some (.cells #[.func (.func f) #[] c, .bool false] 84 (0, 0)) := by
    have := hrel1.cells 1 _ rfl
    rw [hnb] at this
    exact this
  have hcellb : w1.heap[b]? = some (.cells (plainR (mcells m.prog m.status a n cp (thnC th) m.call m.over)) 66 (0, 0)) := by
    have := hrel1.cells 0 _ rfl
    rw [map_plain _ (mcells_below _ _ _ _ _ _ _ _)] at this
    exact this
  have hsize1 : w1.heap.size = w.heap.size + 1 := by rw [hrel1.size]; rfl
  obtain ⟨i84, hi84, hz84⟩ : ∃ i, Tryz.prog.info? 84 = some i ∧ i.zero.map (fun z => z.cells) = some #[.nilFunc, .bool false] ∧ i.size = 2 ∧ i.bytes = 16 := by
    have := info84
    cases hi : Tryz.prog.info? 84 with
    | none => rw [hi] at this; cases this
    | some i => rw [hi] at this; simp only [Option.map_some, Option.some.injEq, Prod.mk.injEq] at this; exact ⟨i, rfl, this.1, this.2⟩
  obtain ⟨hz, hs84, hb84⟩ := hz84
  obtain ⟨z, hz1, hz2⟩ : ∃ z, i84.zero = some z ∧ z.cells = #[.nilFunc, .bool false] := by
    cases h : i84.zero with
    | none => rw [h] at hz; cases hz
    | some z => rw [h] at hz; simp only [Option.map_some, Option.some.injEq] at hz; exact ⟨z, rfl, hz⟩
  have hrl : row.length = m.todo.length := hm.todo.length.symm
  obtain ⟨v', w2, hrun, hown2, hgrow, _, hat⟩ := run_append_own_at (P := Tryz.prog) w1 B 63 63 84 i84 z 2 16 Tryz.underlying63 hi84 hz1 hs84 hb84 (by rw [hz2]; rfl) (by decide)
    (.slice a n cp) n _ hown1 ⟨w.heap.size, 0, none⟩ 1 1 (stepV (f, c)) rfl
    (fun j u hj => by
      have : (⟨w.heap.size, 0, none⟩ : Addr).add j = ⟨w.heap.size, j, none⟩ := by rw [addr_add]; simp
      rw [this]
      simp only [World.cell?, hcell1, Option.isSome_none, Bool.false_eq_true, if_false]
      match j, hj with
      | 0, hj => simpa [stepV] using hj
      | 1, hj => simpa [stepV] using hj
      | j + 2, hj => simp [stepV] at hj)
    (fun u hu => by simp only [stepV, List.mem_cons, List.mem_nil_iff, or_false] at hu; rcases hu with rfl | rfl <;> rfl)
    (by have := hm.len; simp only [maxLen]; omega) (by have := hm.len; omega) (by omega)
  -- the new slice
  obtain ⟨a', cp', rfl⟩ : ∃ a' cp', v' = .slice a' (n + 1) cp' := by
    rcases hown2.2 with ⟨h1, h2⟩ | ⟨g, cap, cur, h1, _⟩
    · omega
    · exact ⟨_, _, h1⟩
  have hblock : ∀ j, j < w1.heap.size → a ≠ some ⟨j, 0, none⟩ → w2.heap[j]? = w1.heap[j]? := by
    intro j hj hne
    refine hgrow.block j hj (fun e => hne ?_)
    obtain ⟨_, h2⟩ := hm.owns
    rcases h2 with ⟨h3, _⟩ | ⟨g, cap, cur, h3, _⟩
    · simp only [Value.slice.injEq] at h3; rw [h3.1] at e; simp [Value.ownBlock] at e
    · simp only [Value.slice.injEq] at h3
      obtain ⟨h3, _, _⟩ := h3
      subst h3
      simp only [Value.ownBlock, Option.some.injEq] at e
      rw [e]
  have hab : a ≠ some ⟨b, 0, none⟩ := by
    rintro rfl
    obtain ⟨_, h2⟩ := hm.owns
    rcases h2 with ⟨h3, _⟩ | ⟨g, cap, cur, h3, h4, h5, _⟩
    · cases h3
    · simp only [Value.slice.injEq, Option.some.injEq, Addr.mk.injEq] at h3
      obtain ⟨⟨rfl, _⟩, _⟩ := h3
      rw [hm.cells] at h5
      simp only [Option.some.injEq, Obj.cells.injEq] at h5
      exact absurd h5.2.1 (by decide)
  have han : a ≠ some ⟨w.heap.size, 0, none⟩ := by
    rintro rfl
    obtain ⟨_, h2⟩ := hm.owns
    rcases h2 with ⟨h3, _⟩ | ⟨g, cap, cur, h3, h4, h5, _⟩
    · cases h3
    · simp only [Value.slice.injEq, Option.some.injEq, Addr.mk.injEq] at h3
      obtain ⟨⟨rfl, _⟩, _⟩ := h3
      have := lt_of_block h5
      omega
  have hbl := lt_of_block hm.cells
  have hcellb2 : w2.heap[b]? = some (.cells (plainR (mcells m.prog m.status a n cp (thnC th) m.call m.over)) 66 (0, 0)) := by
    rw [hblock b (by omega) hab]; exact hcellb
  have hcell2 : w2.heap[w.heap.size]? = some (.cells #[.func (.func f) #[] c, .bool false] 84 (0, 0)) := by
    rw [hblock _ (by omega) han]; exact hcell1
  -- the append
  have hev8 : a1.eval (.tmp 8) = .slice a n cp := ev_ok (σ := { tl := _, bs := [] }) (v := .e (.c (.sl a n cp))) hc1.tl rfl
  have hev11 : a1.eval (.tmp 11) = .slice (some ⟨w.heap.size, 0, none⟩) 1 1 := by
    have := ev_ok (σ := { tl := _, bs := [] }) (v := .e (.c (.nsl 1 0 1 1))) (x := .tmp 11) hc1.tl rfl
    rw [this]
    simp only [SV.real, E.real, C.real, hnb]
  refine gets_opX (dst := some 12) (op := .call ⟨.builtin .append, #[.tmp 8, .tmp 11], #[63, 63]⟩) (ty := 63) (by kernel_rfl) (v := .slice a' (n + 1) cp') (w' := w2) ?_ ?_
  · intro pos after
    simp [execOp, resolve, invoke, builtin, hev8, hev11, hrun]
  have hc2 : CRel ((env w [b] noRo).next 2 w2 noRo) Tryz.f22.ntmps { tl := [(12, .e (.c (.sl a' (n + 1) cp'))), (8, .e (.c (.sl a n cp))), (11, .e (.c (.nsl 1 0 1 1))), (4, .e (.c (.p 0 0)))], bs := [⟨66, mcells m.prog m.status a n cp (thnC th) m.call m.over⟩, ⟨84, [.fv f c, .bool false]⟩] }
      (a1.put (some 12) (.slice a' (n + 1) cp')) w2 := by
    refine CRel.next 2 noRo (hc1.tl.lay hc1.size 12 (by kernel_rfl) (.e (.c (.sl a' (n + 1) cp'))) rfl) (by simp [Act.put, hc1.size]) hc1.defers rfl ?_ ?_ (fun _ _ h => by cases h) rfl ?_
    · exact fun i j hi hj e => hrel1.inj i j hi hj e
    · intro i nb hi
      match i, hi with
      | 0, hi => cases hi; rw [map_plain _ (mcells_below _ _ _ _ _ _ _ _)]; exact hcellb2
      | 1, hi => cases hi; rw [hnb]; exact hcell2
    · show ((mcells m.prog m.status a n cp (thnC th) m.call m.over).all (C.below 2) && _) = true
      cases th <;> rfl
  refine gets_run tab_ok 20 hc2 (holds_of (obs := []) (by kernel_rfl) trivial) (fun a2 w3 hc3 => ?_)
  refine gets_fin tab_ok (l := []) hc3 Tryz.func22 (by kernel_rfl) (by kernel_rfl) ?_
  replace hc3 := hc3.pick [] [⟨66, mcells m.prog m.status a' (n + 1) cp' (thnC th) m.call m.over⟩, ⟨84, [.fv f c, .bool false]⟩] rfl (by kernel_rfl)
  have hrel3 := hc3.mem
  have hρ0 : ((env w [b] noRo).next 2 w2 noRo).ρ 0 = b := rfl
  have hcellb3 : w3.heap[b]? = some (.cells (plainR (mcells m.prog m.status a' (n + 1) cp' (thnC th) m.call m.over)) 66 (0, 0)) := by
    have := hrel3.cells 0 _ rfl
    rw [map_plain _ (mcells_below _ _ _ _ _ _ _ _)] at this
    exact this
  have hcell3 : w3.cell? ⟨b, 3, none⟩ = some (.slice a' (n + 1) cp') := by simp [World.cell?, hcellb3, plainR, mcells, C.real]
  have hsz3 : w3.heap.size = w2.heap.size := by rw [hrel3.size]; rfl
  -- blocks other than b and the row
  have hall : ∀ j, j < w.heap.size → j ≠ b → a ≠ some ⟨j, 0, none⟩ → w3.heap[j]? = w.heap[j]? := by
    intro j hj h1 h2
    have e3 : w3.heap[j]? = w2.heap[j]? := hrel3.keep j (by have := hgrow.size; show j < w2.heap.size; omega) (fun i hi => by
      have hi2 : i < 2 := hi
      match i, hi2 with
      | 0, _ => exact fun e => h1 e.symm
      | 1, _ => show (env w [b] noRo).ρ 1 ≠ j; rw [hnb]; omega)
    rw [e3, hblock j (by omega) h2]
    exact hrel1.keep j hj (fun i hi e => by
      have : i = 0 := by simp only [env, List.length_cons, List.length_nil] at hi; omega
      subst this
      exact h1 e.symm)
  have hevo : Evo w b w3 := by
    refine ⟨?_, ?_, ?_, by have := hgrow.size; omega, ?_, ?_⟩
    · exact hrel3.os.trans (hgrow.os.trans hrel1.os)
    · exact hrel3.tape.trans (hgrow.tape.trans hrel1.tape)
    · exact hrel3.output.trans (hgrow.output.trans hrel1.output)
    · intro j hj ho
      exact hall j hj (fun e => ho (.inl e)) (fun e => ho ((hm.own j).2 (.inr e)))
    · intro j ho
      rcases ho with rfl | ⟨n', c', ho⟩
      · exact .inl (.inl rfl)
      · rw [hcell3] at ho
        simp only [Option.some.injEq, Value.slice.injEq] at ho
        obtain ⟨rfl, _, _⟩ := ho
        rcases hat with hat | hat
        · simp only [Value.ownBlock] at hat
          cases a with
          | none => cases hat
          | some ad =>
            simp only [Option.some.injEq] at hat
            obtain ⟨_, h2⟩ := hm.owns
            rcases h2 with ⟨h3, _⟩ | ⟨g, cap, cur, h3, _⟩
            · cases h3
            · simp only [Value.slice.injEq, Option.some.injEq] at h3
              obtain ⟨rfl, _, _⟩ := h3
              simp only at hat
              subst hat
              exact .inl ((hm.own _).2 (.inr rfl))
        · simp only [Value.ownBlock, Option.some.injEq] at hat
          exact .inr (by omega)
  have hkeep := hevo.keep hm0
  refine ⟨rfl, ⟨a', n + 1, cp', th, row ++ [(f, c)], hm.base, hcellb3, ?_, ?_, by simp [hm.len], thn_keep hm.thn hkeep, hm.glob.keep hkeep⟩, hevo⟩
  · have hx : row.flatMap stepV ++ stepV (f, c) = (row ++ [(f, c)]).flatMap stepV := by simp
    rw [hx] at hown2
    obtain ⟨h1, h2⟩ := hown2
    refine ⟨h1, ?_⟩
    rcases h2 with ⟨h3, h4⟩ | ⟨g, cap, cur, h3, h4, h5, h6⟩
    · omega
    · refine .inr ⟨g, cap, cur, h3, h4, ?_, h6⟩
      simp only [Value.slice.injEq] at h3
      obtain ⟨h3, _, _⟩ := h3
      rw [hrel3.keep g (lt_of_block h5) (fun i hi => ?_)]
      · exact h5
      · have hi2 : i < 2 := hi
        match i, hi2 with
        | 0, _ =>
          show b ≠ g
          rintro rfl
          rw [hcellb2] at h5
          simp only [Option.some.injEq, Obj.cells.injEq] at h5
          exact absurd h5.2.1 (by decide)
        | 1, _ =>
          show (env w [b] noRo).ρ 1 ≠ g
          rw [hnb]
          rintro rfl
          -- the row is either the old one or newer than the literal
          rcases hat with hat | hat
          · rw [h3] at hat
            simp only [Value.ownBlock] at hat
            cases a with
            | none => cases hat
            | some ad =>
              obtain ⟨_, h2⟩ := hm.owns
              rcases h2 with ⟨h7, _⟩ | ⟨g', cap', cur', h7, _⟩
              · cases h7
              · simp only [Value.slice.injEq, Option.some.injEq] at h7
                obtain ⟨rfl, _, _⟩ := h7
                simp only [Option.some.injEq] at hat
                subst hat
                exact han rfl
          · rw [h3] at hat
            simp only [Value.ownBlock, Option.some.injEq] at hat
            omega
  · exact (hm.todo.mono (fun x y hx => hx.keep hkeep)).append (.cons (hk.keep hkeep) .nil)

end Go.Proofs.YtoihipolfdhhnaaGreatDoor
