/-
  Next: the rows are worked off.
-/
import Derived.Test.YtoihipolfdhhnaaGreatDoorClosH
namespace Go.Proofs.YtoihipolfdhhnaaGreatDoor

def zc : List C := ({} : CallD).cs

/-- What may be read beside the machine and a block of one's own. -/
noncomputable def mro (b kr : Nat) (w : World) : Addr → Option Value := fun a => if a.block = b ∨ a.block = kr then none else w.cell? a

theorem mro_of {b kr : Nat} {w : World} {a : Addr} {v : Value} (h1 : a.block ≠ b) (h2 : a.block ≠ kr) (h : w.cell? a = some v) : mro b kr w a = some v := by
  unfold mro; rw [if_neg (by simp [h1, h2])]; exact h

noncomputable abbrev env2 (b kr : Nat) (w : World) : Env := env w [b, kr] (mro b kr w)

/-- The machine and a block of one's own, named. -/
theorem rel2 {B : Bd} {w : World} {b kr : Nat} {m : M} {a : Option Addr} {n c : Nat} {th : Option (FuncId × Array Value)} {row : List (FuncId × Array Value)} (h : MAt B w b m a n c th row)
    {cs : List C} {T : TypeId} (hT : T ≠ 66) (hkr : w.heap[kr]? = some (.cells (plainR cs) T (0, 0))) (hcs : cs.all (C.below 0) = true) :
    Rel (env2 b kr w) [⟨66, mcells m.prog m.status a n c (thnC th) m.call m.over⟩, ⟨T, cs⟩] w := by
  have hne : b ≠ kr := by
    rintro rfl
    rw [h.cells] at hkr
    simp only [Option.some.injEq, Obj.cells.injEq] at hkr
    exact hT hkr.2.1.symm
  refine rel_start rfl ?_ ?_ (fun ad v hv => ?_)
  · intro i j k hi hj
    match i, j, hi, hj with
    | 0, 0, _, _ => rfl
    | 1, 1, _, _ => rfl
    | 0, 1, hi, hj => simp only [List.getElem?_cons_zero, List.getElem?_cons_succ, Option.some.injEq] at hi hj; exact absurd (hi.trans hj.symm) hne
    | 1, 0, hi, hj => simp only [List.getElem?_cons_zero, List.getElem?_cons_succ, Option.some.injEq] at hi hj; exact absurd (hj.trans hi.symm) hne
    | i + 2, _, hi, _ => simp at hi
    | 0, j + 2, _, hj => simp at hj
    | 1, j + 2, _, hj => simp at hj
  · intro i nb k hi hk
    match i, hi, hk with
    | 0, hi, hk =>
      simp only [List.getElem?_cons_zero, Option.some.injEq] at hi hk
      subst hi; subst hk
      rw [map_plain _ (mcells_below _ _ _ _ _ _ _ _)]
      exact h.cells
    | 1, hi, hk =>
      simp only [List.getElem?_cons_zero, List.getElem?_cons_succ, Option.some.injEq] at hi hk
      subst hi; subst hk
      rw [map_plain _ hcs]
      exact hkr
    | i + 2, hi, _ => simp at hi
  · unfold mro at hv
    split at hv
    · cases hv
    · rename_i hno
      exact ⟨hv, by simp only [List.mem_cons, List.mem_nil_iff, or_false]; exact hno⟩

/-- The machine behind own work, with a block of one's own. -/
theorem after2 {B : Bd} {w0 w w' : World} {b kr : Nat} {m m' : M} {a : Option Addr} {n n' c : Nat} {th th' : Option (FuncId × Array Value)} {row row' ex : List (FuncId × Array Value)} {bs : List NB} {ro : Addr → Option Value}
    (h : MAt B w b m a n c th row) (hE : Evo w0 b w) (hkr : w0.heap.size ≤ kr) (hBk : B ≤ kr) {x : Array Value} (hkc : w.heap[kr]? = some (.cells x 39 (0, 0))) (hrel : Rel (env w [b, kr] ro) bs w')
    (hb : bs[0]? = some ⟨66, mcells m'.prog m'.status a n' c (thnC th') m'.call m'.over⟩) (hrow : row = row' ++ ex) (hn : n' = row'.length) (ht : All2 (fun k x => RepF B w k x.1 x.2) m'.todo row')
    (hth : ∀ w2, Keep B w w2 → ThnOk B w2 m'.thn th') : MAt B w' b m' a n' c th' row' ∧ Evo w0 b w' ∧ Keep B w w' := by
  have hcb : w'.heap[b]? = some (.cells (plainR (mcells m'.prog m'.status a n' c (thnC th') m'.call m'.over)) 66 (0, 0)) := by
    have := hrel.cells 0 _ hb
    rw [map_plain _ (mcells_below _ _ _ _ _ _ _ _)] at this
    exact this
  have hcell : w'.cell? ⟨b, 3, none⟩ = some (.slice a n' c) := by simp [World.cell?, hcb, plainR, mcells, C.real]
  have hblk : ∀ k, k < w.heap.size → k ≠ b → k ≠ kr → w'.heap[k]? = w.heap[k]? := fun k hk h1 h2 => hrel.keep k hk (fun i hi => by
    have hi2 : i < 2 := hi
    match i, hi2 with
    | 0, _ => exact fun e => h1 e.symm
    | 1, _ => exact fun e => h2 e.symm)
  have hsz : w.heap.size ≤ w'.heap.size := by rw [hrel.size]; exact Nat.le_add_right _ _
  have hkeep : Keep B w w' := ⟨hrel.os, hrel.tape, hrel.output, hsz, fun k hk hs => hblk k hk (fun e => h.unsafe_ ((h.own k).2 (.inl e)) hs) (fun e => by
    subst e
    rcases hs with hs | ⟨c', T, fr, h1, h2, h3, h4, _⟩
    · omega
    · rw [hkc] at h1; simp only [Option.some.injEq, Obj.cells.injEq] at h1; exact h4 h1.2.1.symm)⟩
  refine ⟨⟨h.base, hcb, ?_, ht.mono (fun k x hx => hx.keep hkeep), hn, hth w' hkeep, h.glob.keep hkeep⟩, ?_, hkeep⟩
  · obtain ⟨h1, h2⟩ := h.owns
    have hlen : ∀ l : List (FuncId × Array Value), (l.flatMap stepV).length = l.length * 2 := by
      intro l
      induction l with
      | nil => rfl
      | cons y l ih => simp only [List.flatMap_cons, List.length_append, ih, List.length_cons, stepV, List.length_nil]; omega
    refine ⟨by rw [hlen, hn], ?_⟩
    rcases h2 with ⟨h3, h4⟩ | ⟨g, cap, cur, h3, h4, h5, h6, h7, h8, h9⟩
    · simp only [Value.slice.injEq] at h3
      obtain ⟨rfl, rfl, rfl⟩ := h3
      have hl := h.len
      rw [hrow, List.length_append] at hl
      have h0 : n' = 0 := by omega
      exact .inl ⟨by rw [h0], h0⟩
    · have hgb : g ≠ b := by
        rintro rfl
        rw [h.cells] at h5
        simp only [Option.some.injEq, Obj.cells.injEq] at h5
        exact absurd h5.2.1 (by decide)
      have hgk : g ≠ kr := by
        rintro rfl
        rw [hkc] at h5
        simp only [Option.some.injEq, Obj.cells.injEq] at h5
        exact absurd h5.2.1 (by decide)
      simp only [Value.slice.injEq] at h3
      obtain ⟨rfl, _, rfl⟩ := h3
      have hl := h.len
      rw [hrow, List.length_append] at hl
      refine .inr ⟨g, c, cur, rfl, h4, by rw [hblk g (lt_of_block h5) hgb hgk]; exact h5, by omega, h7, h8, ?_⟩
      have : (cur.toList.take (n * 2)).take (n' * 2) = (row.flatMap stepV).take (n' * 2) := by rw [h9]
      rw [List.take_take, Nat.min_eq_left (by omega)] at this
      rw [this, hrow, List.flatMap_append, List.take_append_of_le_length (by rw [hlen]; omega), List.take_of_length_le (by rw [hlen]; omega)]
  · refine ⟨hrel.os.trans hE.os, hrel.tape.trans hE.tape, hrel.output.trans hE.output, Nat.le_trans hE.size hsz, fun k hk ho => ?_, fun k ho => ?_⟩
    · rw [hblk k (Nat.lt_of_lt_of_le hk hE.size) (fun e => ho (.inl e)) (by omega)]
      exact hE.block k hk ho
    · refine hE.fresh k ?_
      rcases ho with rfl | ⟨n2, c2, ho⟩
      · exact .inl rfl
      · rw [hcell] at ho
        simp only [Option.some.injEq, Value.slice.injEq] at ho
        exact (h.own k).2 (.inr ho.1)

/- THE LOOP -/

def loopX : List Item → Option (List Item)
  | .code (.loop c) :: k => some (.code c :: .inLoop c :: k)
  | .inLoop c :: k => some (.code c :: .inLoop c :: k)
  | _ => none

theorem gets_loop {P : Program} {f : FuncId} {k k' : List Item} {a : Act} {w : World} {R : Ending → World → Prop} (h : loopX k = some k') (hg : Gets P f k' a w R) : Gets P f k a w R := by
  unfold loopX at h
  split at h
  · cases h; exact Gets.of_steps (fun _ => .one step_loop) hg
  · cases h; exact Gets.of_steps (fun _ => .one step_inLoop) hg
  · cases h

/-- The head of Next's loop. -/
noncomputable def nextHead : List Item := (loopX (run Tab Tryz.f25.ntmps 100 (code Tryz.f25) { tl := [(0, .e (.c (.p 0 0))), (1, .e (.a (({} : Res).cs none 0 0)))], bs := [⟨66, mcells ⟨#[]⟩ 0 none 0 0 .nilf {} false⟩] }).1).getD []

/-- What holds at the head. -/
structure Head (B : Bd) (b kr : Nat) (w0 : World) (m : M) (w : World) (a : Act) : Prop where
  size : a.tmps.size = Tryz.f25.ntmps
  defers : a.defers = []
  mach : a.tmps[0]? = some (bp b)
  res : a.tmps[4]? = some (bp kr)
  ok : MOk B w b m
  blk : w.heap[kr]? = some (.cells (plainR zc) 39 (0, 0))
  evo : Evo w0 b w
  new : w0.heap.size ≤ kr
  base : B ≤ kr

theorem Head.crel {B : Bd} {b kr : Nat} {w0 : World} {m : M} {w : World} {a : Act} (h : Head B b kr w0 m w a) {ap : Option Addr} {n c : Nat} {th : Option (FuncId × Array Value)} {row : List (FuncId × Array Value)} (hM : MAt B w b m ap n c th row) (orc : List Bool) (ext : List SV) :
    CRel (env2 b kr w) Tryz.f25.ntmps { tl := [(0, .e (.c (.p 0 0))), (4, .e (.c (.p 1 0)))], bs := [⟨66, mcells m.prog m.status ap n c (thnC th) m.call m.over⟩, ⟨39, zc⟩], orc := orc, ext := ext } a w := by
  refine ⟨fun d v hd => ?_, h.size, h.defers, rel2 hM (by decide) h.blk rfl⟩
  simp only [lk] at hd
  split at hd
  · rename_i e; cases hd; subst e; exact h.mach
  · split at hd
    · rename_i e; cases hd; subst e; exact h.res
    · cases hd

/-- What Next comes to. -/
def NextR (B : Bd) (b : Nat) (w0 : World) (m' : M) (e : Ending) (w' : World) : Prop := e = .returned (.agg (plainR m'.call.cs)) ∧ MOk B w' b m' ∧ Evo w0 b w'

/-- The machine has a call, or is over. -/
theorem head_halt {B : Bd} {b kr : Nat} {w0 : World} {m : M} {w : World} {a : Act} (h : Head B b kr w0 m w a) (hh : m.thn.isSome = true ∨ m.over = true) : Gets Tryz.prog 25 nextHead a w (NextR B b w0 m) := by
  obtain ⟨ap, n, c, th, row, hM⟩ := h.ok
  obtain ⟨prog, status, todo, thn, call, over⟩ := m
  have hfin : ∀ (orc : List Bool) (obs : List (Env → Prop)),
      (run Tab Tryz.f25.ntmps 60 nextHead { tl := [(0, .e (.c (.p 0 0))), (4, .e (.c (.p 1 0)))], bs := [⟨66, mcells prog status ap n c (thnC th) call over⟩, ⟨39, zc⟩], orc := orc }).2.ob = obs →
      (run Tab Tryz.f25.ntmps 60 nextHead { tl := [(0, .e (.c (.p 0 0))), (4, .e (.c (.p 1 0)))], bs := [⟨66, mcells prog status ap n c (thnC th) call over⟩, ⟨39, zc⟩], orc := orc }).2.bs = [⟨66, mcells prog status ap n c (thnC th) call over⟩, ⟨39, call.cs⟩] →
      isFin (run Tab Tryz.f25.ntmps 60 nextHead { tl := [(0, .e (.c (.p 0 0))), (4, .e (.c (.p 1 0)))], bs := [⟨66, mcells prog status ap n c (thnC th) call over⟩, ⟨39, zc⟩], orc := orc }).1 = true →
      resXs Tab (run Tab Tryz.f25.ntmps 60 nextHead { tl := [(0, .e (.c (.p 0 0))), (4, .e (.c (.p 1 0)))], bs := [⟨66, mcells prog status ap n c (thnC th) call over⟩, ⟨39, zc⟩], orc := orc }).2 Tryz.f25.results.toList = some [.a call.cs] →
      AllP obs (env2 b kr w) → Gets Tryz.prog 25 nextHead a w (NextR B b w0 ⟨prog, status, todo, thn, call, over⟩) := by
    intro orc obs e1 e2 e3 e4 e5
    refine gets_run tab_ok 60 (h.crel hM orc []) (holds_of e1 e5) (fun a1 w1 hc1 => ?_)
    have hr := hc1.mem.bs e2
    obtain ⟨h1, h2, _⟩ := after2 (m' := ⟨prog, status, todo, thn, call, over⟩) (th' := th) (row' := row) (ex := []) hM h.evo h.new h.base h.blk hr rfl (by simp) hM.len hM.todo (fun w2 hk => thn_keep hM.thn hk)
    exact gets_fin tab_ok hc1 Tryz.func25 e3 e4 ⟨rfl, ⟨_, _, _, _, _, h1⟩, h2⟩
  have hth := hM.thn
  cases over with
  | false =>
    cases thn with
    | none => simp at hh
    | some t =>
      cases th with
      | none => exact hth.elim
      | some x => exact hfin [] [] (by kernel_rfl) (by kernel_rfl) (by kernel_rfl) (by kernel_rfl) trivial
  | true =>
    cases thn with
    | none =>
      cases th with
      | none => exact hfin [] [] (by kernel_rfl) (by kernel_rfl) (by kernel_rfl) (by kernel_rfl) trivial
      | some x => exact hth.elim
    | some t =>
      cases th with
      | none => exact hth.elim
      | some x => exact hfin [] [] (by kernel_rfl) (by kernel_rfl) (by kernel_rfl) (by kernel_rfl) trivial

end Go.Proofs.YtoihipolfdhhnaaGreatDoor
