/-
  Part 2 of the proof: Pure, ClosD, ClosE, Mid, ClosF, Run, ClosG, Itoa, ClosI, ClosJ, ClosK, ClosL, Cont, ClosN, ClosO, ClosP, ClosQ, ClosR, ClosS, ClosT, ClosU.
-/
import Derived.Lib.ItoaNum
import Derived.Lib.Bytealg
import Derived.Shelf.LaysM
import Derived.Shelf.Strconv.Itoa2
import Derived.Shelf.Strconv.Itoa3
import Derived.Test.YtoihipolfdhhnaaGreatDoorProg
import Derived.Lib.ItoaLen
import Derived.Shelf.Strings.Builder1
import Derived.Shelf.Strings.Trim
import Derived.Shelf.Small.Utf8
import Derived.Shelf.Small.Strs
import Derived.Shelf.Strings.BuilderF
import Derived.Shelf.Strings.BuilderK
import Derived.Shelf.Utf8.RuneCount
import Derived.Shelf.Strconv.Atoi
import Derived.Shelf.Strconv.Itoa0
import Derived.Shelf.Strconv.Itoa1
import Derived.Shelf.Strconv.AtoiErrFast
import Derived.Shelf.Strconv.ParseIntEmpty
import Derived.Shelf.Strconv.AtoiFail
import Derived.Shelf.Strconv.Clone
import Derived.Shelf.Strconv.SyntaxError
import Derived.Shelf.Strconv.Lower
import Derived.Shelf.Strconv.ParseUint10
import Derived.Shelf.Strconv.ParseUint10Empty
import Derived.Shelf.Strconv.RangeError
import Derived.Shelf.Strconv.ParseUintEmpty
import Derived.Shelf.Strconv.ParseUint10b64
import Derived.Shelf.Strconv.ParseUint10b32
import Derived.Shelf.Strconv.ParseUint10b16
import Derived.Shelf.Strconv.ParseUint10b8
import Derived.Shelf.Strings.Search1
import Derived.Shelf.Strings.Search2
import Derived.Shelf.Strings.Search3
import Derived.Shelf.Strings.Cut
import Derived.Shelf.Strings.Count
import Derived.Shelf.Strings.Shaped
import Derived.Shelf.Strings.LastIndex
import Derived.Shelf.Strings.Prefix
import Derived.Shelf.Strings.Split
import Derived.Shelf.Strings.SplitShaped
import Derived.Shelf.Unicode.Decode
import Derived.Shelf.Strings.Runes
import Derived.Shelf.Strings.RuneCount
import Derived.Shelf.Strings.AsciiSet
import Derived.Shelf.Strings.Explode
import Derived.Shelf.Unicode.DecodeSlow
import Derived.Shelf.Unicode.DecodeAny
import Derived.Shelf.Unicode.DecodeLast
import Derived.Laws.RangeString
import Derived.Laws.RangeAny
import Derived.Lib.OthersKept
import Derived.Test.YtoihipolfdhhnaaGreatDoorMRemoves1

namespace Go.Proofs.YtoihipolfdhhnaaGreatDoor

/-- Only new blocks have come. -/
structure New (w w' : World) : Prop where
  os : w'.os = w.os
  tape : w'.tape = w.tape
  output : w'.output = w.output
  size : w.heap.size ≤ w'.heap.size
  block : ∀ k, k < w.heap.size → w'.heap[k]? = w.heap[k]?

theorem New.refl (w : World) : New w w := ⟨rfl, rfl, rfl, Nat.le_refl _, fun _ _ => rfl⟩
theorem New.trans {a b c : World} (h : New a b) (k : New b c) : New a c :=
  ⟨k.os.trans h.os, k.tape.trans h.tape, k.output.trans h.output, Nat.le_trans h.size k.size, fun i hi => (k.block i (Nat.lt_of_lt_of_le hi h.size)).trans (h.block i hi)⟩
theorem New.keep {w w' : World} (h : New w w') (B : Bd) : Keep B w w' := ⟨h.os, h.tape, h.output, h.size, fun k hk _ => h.block k hk⟩

theorem MOk.fresh {B : Bd} {w w' : World} {b : Nat} {m : M} (hm : MOk B w b m) (hn : New w w') : MOk B w' b m ∧ Evo w b w' := by
  have hm0 := hm
  obtain ⟨a, n, c, th, row, hm⟩ := hm
  have hcell : w'.cell? ⟨b, 3, none⟩ = w.cell? ⟨b, 3, none⟩ := World.cell?_of_block (hn.block b (lt_of_block hm.cells))
  have hevo : Evo w b w' := by
    refine ⟨hn.os, hn.tape, hn.output, hn.size, fun k hk _ => hn.block k hk, fun k ho => ?_⟩
    rcases ho with ho | ⟨n', c', ho⟩
    · exact .inl (.inl ho)
    · exact .inl (.inr ⟨n', c', by rw [← hcell]; exact ho⟩)
  have hkeep := hevo.keep hm0
  refine ⟨⟨a, n, c, th, row, hm.base, ?_, ?_, hm.todo.mono (fun x y hx => hx.keep hkeep), hm.len, thn_keep hm.thn hkeep, hm.glob.keep hkeep⟩, hevo⟩
  · rw [hn.block b (lt_of_block hm.cells)]; exact hm.cells
  · obtain ⟨h1, h2⟩ := hm.owns
    refine ⟨h1, ?_⟩
    rcases h2 with h2 | ⟨g, cap, cur, h3, h4, h5, h6⟩
    · exact .inl h2
    · exact .inr ⟨g, cap, cur, h3, h4, by rw [hn.block g (lt_of_block h5)]; exact h5, h6⟩

/-- All names are of blocks newer than w, and what was there in w is as it was at the names' base. -/
structure Over (w : World) (ε : Env) : Prop where
  new : New w ε.wb
  names : ∀ i, i < ε.n0 → w.heap.size ≤ ε.ρ i

theorem Over.env (w : World) (ro : Addr → Option Value) : Over w (env w [] ro) := ⟨New.refl w, fun i hi => by simp [Go.Proofs.YtoihipolfdhhnaaGreatDoor.env] at hi⟩

theorem Over.rel {w w' : World} {ε : Env} {bs : List NB} (h : Over w ε) (hr : Rel ε bs w') : New w w' :=
  ⟨hr.os.trans h.new.os, hr.tape.trans h.new.tape, hr.output.trans h.new.output, by have := hr.size; have := h.new.size; omega,
    fun k hk => (hr.keep k (Nat.lt_of_lt_of_le hk h.new.size) (fun i hi => by have := h.names i hi; omega)).trans (h.new.block k hk)⟩

theorem Over.next {w w1 w2 : World} {ε : Env} {bs : List NB} (h : Over w ε) (hr : Rel ε bs w1) (hn : New w1 w2) (ro : Addr → Option Value) : Over w (ε.next bs.length w2 ro) := by
  refine ⟨(h.rel hr).trans hn, fun i hi => ?_⟩
  have hi' : i < bs.length := hi
  simp only [Env.next, if_pos hi']
  rcases Nat.lt_or_ge i ε.n0 with h1 | h1
  · exact h.names i h1
  · rw [hr.new i h1]; have := h.new.size; omega

theorem Over.above {w w' : World} {ε : Env} {bs : List NB} (h : Over w ε) (hr : Rel ε bs w') {i : Nat} (_ : i < bs.length) : w.heap.size ≤ ε.ρ i := by
  rcases Nat.lt_or_ge i ε.n0 with h1 | h1
  · exact h.names i h1
  · rw [hr.new i h1]; have := h.new.size; omega

/-- The same names, the same blocks: the same memory. -/
theorem Rel.same {ε : Env} {bs : List NB} {w w' : World} (h : Rel ε bs w) (h' : Rel ε bs w') : New w w' := by
  refine ⟨h'.os.trans h.os.symm, h'.tape.trans h.tape.symm, h'.output.trans h.output.symm, by rw [h.size, h'.size]; exact Nat.le_refl _, fun k hk => ?_⟩
  by_cases hn : ∃ i, i < bs.length ∧ ε.ρ i = k
  · obtain ⟨i, hi, rfl⟩ := hn
    rw [h.cells i _ (List.getElem?_eq_getElem hi), h'.cells i _ (List.getElem?_eq_getElem hi)]
  · have hlt : k < ε.wb.heap.size := by
      rcases Nat.lt_or_ge k ε.wb.heap.size with h1 | h1
      · exact h1
      · have := h.size
        have h0 := h.n0
        exact absurd ⟨ε.n0 + (k - ε.wb.heap.size), by omega, by rw [h.new _ (by omega)]; omega⟩ hn
    have hno : ∀ i, i < ε.n0 → ε.ρ i ≠ k := fun i hi e => hn ⟨i, Nat.lt_of_lt_of_le hi h.n0, e⟩
    rw [h.keep k hlt hno, h'.keep k hlt hno]

/-- A call that makes new blocks at most. -/
theorem gets_pure {P : Program} {ε : Env} {nt : Nat} {f : FuncId} {k : List Item} {σ : St} {a : Act} {w : World} {R : Ending → World → Prop} {c : CallX} {Q : World → Prop} (d : Nat) (v : SV) (orc : List Bool) (ext : List SV)
    (hc : CRel ε nt σ a w) (hx : callX k σ = some c) (he : enters P c.fn = true) (hd : dstX k = some d) (hdn : Nat.blt d nt = true)
    (hcall : Calls P c.fn (c.real ε.ρ) w fun e w' => e = .returned (v.real ε.ρ) ∧ New w w' ∧ Q w')
    (hb : (((d, v) :: σ.tl).all fun x => x.2.below σ.bs.length) = true) (hb' : (σ.bs.all fun b => b.cs.all (C.below σ.bs.length)) = true)
    (h : ∀ a' w', New w w' → Q w' → CRel (ε.next σ.bs.length w' ε.ro) nt { tl := (d, v) :: σ.tl, bs := σ.bs, orc := orc, ext := ext } a' w' → Gets P f (popX k) a' w' R) : Gets P f k a w R := by
  refine gets_call hc hx he hcall (fun e w' ⟨h1, h2, h3⟩ => ⟨_, h1, ?_⟩)
  rw [hd]
  refine h _ w' h2 h3 ?_
  have hlt : ∀ i b, σ.bs[i]? = some b → ε.ρ i < w.heap.size := fun i b hi => lt_of_block (hc.mem.cells i b hi)
  have := CRel.next (ε := ε) (nt := nt) (tl := (d, v) :: σ.tl) (bs' := σ.bs) (a := a.put (some d) (v.real ε.ρ)) (w' := w') σ.bs.length ε.ro (hc.tl.lay hc.size d hdn v rfl) (by rw [Act.put_size]; exact hc.size) (by rw [Act.put_defers']; exact hc.defers) rfl hc.mem.inj
    (fun i b hi => by rw [h2.block _ (hlt i b hi)]; exact hc.mem.cells i b hi)
    (fun ad u hu => ⟨by obtain ⟨h4, _⟩ := hc.mem.ro ad u hu; rw [World.cell?_of_block (h2.block _ (World.block_lt_of_cell? w ad h4))]; exact h4, (hc.mem.ro ad u hu).2⟩) hb hb'
  exact ⟨this.tl, this.size, this.defers, this.mem⟩

def AllT (ρ ρ' : Nat → Nat) (tl : List (Nat × SV)) : List (Nat × SV) → Prop
  | [] => True
  | x :: l => (lk x.1 tl).map (SV.real ρ) = some (x.2.real ρ') ∧ AllT ρ ρ' tl l

/-- The names forgotten. -/
theorem CRel.anew {ε : Env} {nt : Nat} {σ : St} {a : Act} {w : World} (hc : CRel ε nt σ a w) (B : Bd) (tl : List (Nat × SV)) (orc : List Bool) (ext : List SV) (h : AllT ε.ρ (env0 B w).ρ σ.tl tl) :
    CRel (env0 B w) nt { tl := tl, bs := [], orc := orc, ext := ext } a w := by
  refine ⟨fun d v hd => ?_, hc.size, hc.defers, rel_nil w _ (fun _ _ h => (sro_le h).2)⟩
  simp only at hd
  induction tl with
  | nil => cases hd
  | cons x l ih =>
    obtain ⟨x1, x2⟩ := x
    simp only [lk] at hd
    split at hd
    · rename_i e
      cases hd
      subst e
      obtain ⟨h1, _⟩ := h
      simp only at h1
      cases hv : lk x1 σ.tl with
      | none => rw [hv] at h1; cases h1
      | some v' =>
        rw [hv] at h1
        simp only [Option.map_some, Option.some.injEq] at h1
        rw [← h1]
        exact hc.tl x1 v' hv
    · exact ih h.2 hd

/-- The last call, where the names are all new. -/
theorem gets_last {B : Bd} {b : Nat} {w0 w : World} {m m' : M} {ε : Env} {nt : Nat} {f : FuncId} {fn : Func} {k : List Item} {σ : St} {a : Act} {bs : List NB} {c : CallX} (hm : MOk B w0 b m) (hov : Over w0 ε)
    (hc : CRel ε nt σ a w) (hbs : σ.bs = bs) (hx : callX k σ = some c) (he : enters Tryz.prog c.fn = true) (hf : Tryz.prog.funcs[f]? = some fn) (hr : fn.results = #[]) (hk : isFin (ctl 30 (popX k)) = true)
    (hcall : Rel ε bs w → MOk B w b m → Keep B w0 w → Calls Tryz.prog c.fn (c.real ε.ρ) w (Does B b w m')) : Gets Tryz.prog f k a w (Does B b w0 m') := by
  have hn := hov.rel hc.mem
  obtain ⟨hm1, he1⟩ := hm.fresh hn
  exact gets_tail (fun w' => MOk B w' b m' ∧ Evo w b w') hc hx he (hcall (hbs ▸ hc.mem) hm1 (hn.keep B)) hf hr hk (fun w' h => ⟨rfl, h.1, he1.trans h.2⟩)

theorem gets_evo {B : Bd} {b : Nat} {w w1 w2 : World} {m : M} {f : FuncId} {k : List Item} {a : Act} (he : Evo w b w1) (h : Gets Tryz.prog f k a w2 (Does B b w1 m)) : Gets Tryz.prog f k a w2 (Does B b w m) := by
  intro cs
  obtain ⟨e', w', fr, hD, hrest⟩ := h cs
  exact ⟨e', w', fr, Does.evo he hD, hrest⟩

theorem rel1 {w : World} {kr : Nat} {cs : List C} {T : TypeId} (hkr : w.heap[kr]? = some (.cells (plainR cs) T (0, 0))) (hcs : cs.all (C.below 0) = true) : Rel (env w [kr] noRo) [⟨T, cs⟩] w := by
  refine rel_start rfl ?_ ?_ (fun ad v hv => by cases hv)
  · intro i j k hi hj
    match i, j, hi, hj with
    | 0, 0, _, _ => rfl
    | i + 1, _, hi, _ => simp at hi
    | 0, j + 1, _, hj => simp at hj
  · intro i nb k hi hk
    match i, hi, hk with
    | 0, hi, hk =>
      simp only [List.getElem?_cons_zero, Option.some.injEq] at hi hk
      subst hi; subst hk
      rw [map_plain _ hcs]
      exact hkr
    | i + 1, hi, _ => simp at hi

theorem CRel.pickx {ε : Env} {nt : Nat} {σ : St} {a : Act} {w : World} (hc : CRel ε nt σ a w) (tl : List (Nat × SV)) (bs : List NB) (orc : List Bool)
    (h1 : tl.map (fun x => lk x.1 σ.tl) = tl.map (fun x => some x.2)) (h2 : σ.bs = bs) : CRel ε nt { tl := tl, bs := bs, orc := orc } a w :=
  ⟨(hc.pick tl bs h1 h2).tl, hc.size, hc.defers, h2 ▸ hc.mem⟩

theorem CRel.feed {ε : Env} {nt : Nat} {σ : St} {a : Act} {w : World} (hc : CRel ε nt σ a w) (orc : List Bool) (ext : List SV) : CRel ε nt { tl := σ.tl, bs := σ.bs, orc := orc, ext := ext } a w :=
  ⟨hc.tl, hc.size, hc.defers, hc.mem⟩

/-- A function that comes to a value, with new blocks at most. -/
def Gives (v : Value) (Q : World → Prop) (w : World) (e : Ending) (w' : World) : Prop := e = .returned v ∧ New w w' ∧ Q w'

/-- Own work, a call that makes new blocks at most, own work, one call. -/
theorem gives_end {B : Bd} {w : World} {f : FuncId} {fn : Func} {vals : Array Value} {v : Value} {Q : World → Prop} {l : List E} (args : List SV) (orc : List Bool) (ext : List SV) (n : Nat) (bs : List NB) {obs : List (Env → Prop)}
    (hf : Tryz.prog.funcs[f]? = some fn) (hb : fn.body.isSome = true) (hle : Nat.ble args.length fn.ntmps = true) (hvals : vals = (args.map (SV.real (env0 B w).ρ)).toArray)
    (ho : (run Tab fn.ntmps n (code fn) (ini args orc ext)).2.ob = obs) (hbs : (run Tab fn.ntmps n (code fn) (ini args orc ext)).2.bs = bs)
    (hk : isFin (run Tab fn.ntmps n (code fn) (ini args orc ext)).1 = true) (hr : resXs Tab (run Tab fn.ntmps n (code fn) (ini args orc ext)).2 fn.results.toList = some l)
    (hobs : AllP obs (env0 B w)) (hv : v = (retX l).real (env0 B w).ρ) (hQ : ∀ w1, Rel (env0 B w) bs w1 → Q w1) : Calls Tryz.prog f vals w (Gives v Q w) := by
  refine enter tab_ok args orc ext n hf hb hle hvals ho hobs (fun a1 w1 hc1 => ?_)
  have hmem := hc1.mem
  rw [hbs] at hmem
  exact gets_fin tab_ok hc1 hf hk hr ⟨by rw [hv], (Over.env w _).rel hmem, hQ w1 hmem⟩

end Go.Proofs.YtoihipolfdhhnaaGreatDoor

namespace Go.Proofs.YtoihipolfdhhnaaGreatDoor

theorem apiSay_calls {B : Bd} (w : World) (e : Int) : Calls Tryz.prog 118 #[.int .i64 e] w (Gives (.string (apiSay e)) (fun _ => True) w) := by
  unfold apiSay
  by_cases h0 : e = 0
  · subst h0
    exact gives_end (B := B) [.e (.c (.int .i64 0))] [true] [] 200 [] (obs := [fun _ => ((0 : Int) == 0) = true]) Tryz.func118 rfl rfl rfl (by kernel_rfl) (by kernel_rfl) (by kernel_rfl) (l := [.c (.str _)]) (by kernel_rfl) ⟨rfl, trivial⟩ rfl (fun _ _ => trivial)
  by_cases h1 : e = 2
  · subst h1
    exact gives_end (B := B) [.e (.c (.int .i64 2))] [false, true] [] 200 [] (obs := [fun _ => ((2 : Int) == 0) = false, fun _ => ((2 : Int) == 2) = true]) Tryz.func118 rfl rfl rfl (by kernel_rfl) (by kernel_rfl) (by kernel_rfl) (l := [.c (.str _)]) (by kernel_rfl) ⟨rfl, rfl, trivial⟩ rfl (fun _ _ => trivial)
  by_cases h2 : e = 3
  · subst h2
    exact gives_end (B := B) [.e (.c (.int .i64 3))] [false, false, true] [] 200 [] (obs := [fun _ => ((3 : Int) == 0) = false, fun _ => ((3 : Int) == 2) = false, fun _ => ((3 : Int) == 3) = true]) Tryz.func118 rfl rfl rfl (by kernel_rfl) (by kernel_rfl) (by kernel_rfl) (l := [.c (.str _)]) (by kernel_rfl) ⟨rfl, rfl, rfl, trivial⟩ rfl (fun _ _ => trivial)
  by_cases h3 : e = 4
  · subst h3
    exact gives_end (B := B) [.e (.c (.int .i64 4))] [false, false, false, true] [] 200 [] (obs := [fun _ => ((4 : Int) == 0) = false, fun _ => ((4 : Int) == 2) = false, fun _ => ((4 : Int) == 3) = false, fun _ => ((4 : Int) == 4) = true]) Tryz.func118 rfl rfl rfl (by kernel_rfl) (by kernel_rfl) (by kernel_rfl) (l := [.c (.str _)]) (by kernel_rfl) ⟨rfl, rfl, rfl, rfl, trivial⟩ rfl (fun _ _ => trivial)
  by_cases h4 : e = 5
  · subst h4
    exact gives_end (B := B) [.e (.c (.int .i64 5))] [false, false, false, false, true] [] 200 [] (obs := [fun _ => ((5 : Int) == 0) = false, fun _ => ((5 : Int) == 2) = false, fun _ => ((5 : Int) == 3) = false, fun _ => ((5 : Int) == 4) = false, fun _ => ((5 : Int) == 5) = true]) Tryz.func118 rfl rfl rfl (by kernel_rfl) (by kernel_rfl) (by kernel_rfl) (l := [.c (.str _)]) (by kernel_rfl) ⟨rfl, rfl, rfl, rfl, rfl, trivial⟩ rfl (fun _ _ => trivial)
  by_cases h5 : e = 6
  · subst h5
    exact gives_end (B := B) [.e (.c (.int .i64 6))] [false, false, false, false, false, true] [] 200 [] (obs := [fun _ => ((6 : Int) == 0) = false, fun _ => ((6 : Int) == 2) = false, fun _ => ((6 : Int) == 3) = false, fun _ => ((6 : Int) == 4) = false, fun _ => ((6 : Int) == 5) = false, fun _ => ((6 : Int) == 6) = true]) Tryz.func118 rfl rfl rfl (by kernel_rfl) (by kernel_rfl) (by kernel_rfl) (l := [.c (.str _)]) (by kernel_rfl) ⟨rfl, rfl, rfl, rfl, rfl, rfl, trivial⟩ rfl (fun _ _ => trivial)
  by_cases h6 : e = 7
  · subst h6
    exact gives_end (B := B) [.e (.c (.int .i64 7))] [false, false, false, false, false, false, true] [] 200 [] (obs := [fun _ => ((7 : Int) == 0) = false, fun _ => ((7 : Int) == 2) = false, fun _ => ((7 : Int) == 3) = false, fun _ => ((7 : Int) == 4) = false, fun _ => ((7 : Int) == 5) = false, fun _ => ((7 : Int) == 6) = false, fun _ => ((7 : Int) == 7) = true]) Tryz.func118 rfl rfl rfl (by kernel_rfl) (by kernel_rfl) (by kernel_rfl) (l := [.c (.str _)]) (by kernel_rfl) ⟨rfl, rfl, rfl, rfl, rfl, rfl, rfl, trivial⟩ rfl (fun _ _ => trivial)
  by_cases h7 : e = 8
  · subst h7
    exact gives_end (B := B) [.e (.c (.int .i64 8))] [false, false, false, false, false, false, false, true] [] 200 [] (obs := [fun _ => ((8 : Int) == 0) = false, fun _ => ((8 : Int) == 2) = false, fun _ => ((8 : Int) == 3) = false, fun _ => ((8 : Int) == 4) = false, fun _ => ((8 : Int) == 5) = false, fun _ => ((8 : Int) == 6) = false, fun _ => ((8 : Int) == 7) = false, fun _ => ((8 : Int) == 8) = true]) Tryz.func118 rfl rfl rfl (by kernel_rfl) (by kernel_rfl) (by kernel_rfl) (l := [.c (.str _)]) (by kernel_rfl) ⟨rfl, rfl, rfl, rfl, rfl, rfl, rfl, rfl, trivial⟩ rfl (fun _ _ => trivial)
  by_cases h8 : e = 9
  · subst h8
    exact gives_end (B := B) [.e (.c (.int .i64 9))] [false, false, false, false, false, false, false, false, true] [] 200 [] (obs := [fun _ => ((9 : Int) == 0) = false, fun _ => ((9 : Int) == 2) = false, fun _ => ((9 : Int) == 3) = false, fun _ => ((9 : Int) == 4) = false, fun _ => ((9 : Int) == 5) = false, fun _ => ((9 : Int) == 6) = false, fun _ => ((9 : Int) == 7) = false, fun _ => ((9 : Int) == 8) = false, fun _ => ((9 : Int) == 9) = true]) Tryz.func118 rfl rfl rfl (by kernel_rfl) (by kernel_rfl) (by kernel_rfl) (l := [.c (.str _)]) (by kernel_rfl) ⟨rfl, rfl, rfl, rfl, rfl, rfl, rfl, rfl, rfl, trivial⟩ rfl (fun _ _ => trivial)
  by_cases h9 : e = 10
  · subst h9
    exact gives_end (B := B) [.e (.c (.int .i64 10))] [false, false, false, false, false, false, false, false, false, true] [] 200 [] (obs := [fun _ => ((10 : Int) == 0) = false, fun _ => ((10 : Int) == 2) = false, fun _ => ((10 : Int) == 3) = false, fun _ => ((10 : Int) == 4) = false, fun _ => ((10 : Int) == 5) = false, fun _ => ((10 : Int) == 6) = false, fun _ => ((10 : Int) == 7) = false, fun _ => ((10 : Int) == 8) = false, fun _ => ((10 : Int) == 9) = false, fun _ => ((10 : Int) == 10) = true]) Tryz.func118 rfl rfl rfl (by kernel_rfl) (by kernel_rfl) (by kernel_rfl) (l := [.c (.str _)]) (by kernel_rfl) ⟨rfl, rfl, rfl, rfl, rfl, rfl, rfl, rfl, rfl, rfl, trivial⟩ rfl (fun _ _ => trivial)
  by_cases h10 : e = 13
  · subst h10
    exact gives_end (B := B) [.e (.c (.int .i64 13))] [false, false, false, false, false, false, false, false, false, false, true] [] 200 [] (obs := [fun _ => ((13 : Int) == 0) = false, fun _ => ((13 : Int) == 2) = false, fun _ => ((13 : Int) == 3) = false, fun _ => ((13 : Int) == 4) = false, fun _ => ((13 : Int) == 5) = false, fun _ => ((13 : Int) == 6) = false, fun _ => ((13 : Int) == 7) = false, fun _ => ((13 : Int) == 8) = false, fun _ => ((13 : Int) == 9) = false, fun _ => ((13 : Int) == 10) = false, fun _ => ((13 : Int) == 13) = true]) Tryz.func118 rfl rfl rfl (by kernel_rfl) (by kernel_rfl) (by kernel_rfl) (l := [.c (.str _)]) (by kernel_rfl) ⟨rfl, rfl, rfl, rfl, rfl, rfl, rfl, rfl, rfl, rfl, rfl, trivial⟩ rfl (fun _ _ => trivial)
  by_cases h11 : e = 12
  · subst h11
    exact gives_end (B := B) [.e (.c (.int .i64 12))] [false, false, false, false, false, false, false, false, false, false, false, true] [] 200 [] (obs := [fun _ => ((12 : Int) == 0) = false, fun _ => ((12 : Int) == 2) = false, fun _ => ((12 : Int) == 3) = false, fun _ => ((12 : Int) == 4) = false, fun _ => ((12 : Int) == 5) = false, fun _ => ((12 : Int) == 6) = false, fun _ => ((12 : Int) == 7) = false, fun _ => ((12 : Int) == 8) = false, fun _ => ((12 : Int) == 9) = false, fun _ => ((12 : Int) == 10) = false, fun _ => ((12 : Int) == 13) = false, fun _ => ((12 : Int) == 12) = true]) Tryz.func118 rfl rfl rfl (by kernel_rfl) (by kernel_rfl) (by kernel_rfl) (l := [.c (.str _)]) (by kernel_rfl) ⟨rfl, rfl, rfl, rfl, rfl, rfl, rfl, rfl, rfl, rfl, rfl, rfl, trivial⟩ rfl (fun _ _ => trivial)
  · rw [if_neg h0, if_neg h1, if_neg h2, if_neg h3, if_neg h4, if_neg h5, if_neg h6, if_neg h7, if_neg h8, if_neg h9, if_neg h10, if_neg h11]
    exact gives_end (B := B) [.e (.c (.int .i64 e))] [false, false, false, false, false, false, false, false, false, false, false, false] [] 200 [] (obs := [fun _ => (e == 0) = false, fun _ => (e == 2) = false, fun _ => (e == 3) = false, fun _ => (e == 4) = false, fun _ => (e == 5) = false, fun _ => (e == 6) = false, fun _ => (e == 7) = false, fun _ => (e == 8) = false, fun _ => (e == 9) = false, fun _ => (e == 10) = false, fun _ => (e == 13) = false, fun _ => (e == 12) = false]) Tryz.func118 rfl rfl rfl (by kernel_rfl) (by kernel_rfl) (by kernel_rfl) (l := [.c (.str _)]) (by kernel_rfl) ⟨by simp [h0], by simp [h1], by simp [h2], by simp [h3], by simp [h4], by simp [h5], by simp [h6], by simp [h7], by simp [h8], by simp [h9], by simp [h10], by simp [h11], trivial⟩ rfl (fun _ _ => trivial)

theorem ite_size {c : Prop} [Decidable c] {x y : ByteArray} {n : Nat} (hx : x.size ≤ n) (hy : y.size ≤ n) : (if c then x else y).size ≤ n := by split <;> assumption

theorem apiSay_size (e : Int) : (apiSay e).size ≤ 20 := by
  unfold apiSay
  repeat' apply ite_size
  all_goals decide

/-- Bad. -/
theorem bad_calls {B : Bd} {w : World} {b : Nat} {m : M} (hm : MOk B w b m) (p : ByteArray) (e : Int) (hs : m.prog.size + p.size ≤ 1152921504606846976) :
    Calls Tryz.prog 99 #[bp b, .string p, .int .i64 e] w (Does B b w (m.bad p e)) := by
  have hm0 := hm
  obtain ⟨a, n, cp, th, row, hm⟩ := hm
  refine calls_exec [.e (.c (.p 0 0)), .e (.c (.str p)), .e (.c (.int .i64 e))] [b] [⟨66, mcells m.prog m.status a n cp (thnC th) m.call m.over⟩] noRo Tryz.func99 rfl rfl rfl (hm.rel noRo (fun _ _ h => by cases h)) ?_
  intro a0 hc
  have h2 : (⟨#[58, 32]⟩ : ByteArray).size = 2 := rfl
  refine gets_run tab_ok 40 hc (holds_of (obs := [fun _ => ((p.size + (⟨#[58, 32]⟩ : ByteArray).size : Nat) : Int) ≤ 9223372036854775807]) (by kernel_rfl) (by simp only [AllP, h2, and_true]; omega)) (fun a1 w1 hc1 => ?_)
  replace hc1 := hc1.pick [(12, .e (.c (.str (p ++ ⟨#[58, 32]⟩)))), (13, .e (.c (.int .i64 e))), (10, .e (.c (.p 0 0)))] [⟨66, mcells m.prog 1 a n cp (thnC th) m.call m.over⟩] (by kernel_rfl) (by kernel_rfl)
  obtain ⟨hm1, he1⟩ := hm.after (m' := { m with status := 1 }) hc1.mem rfl rfl (thn_keep hm.thn ((evo_of_rel (m' := { m with status := 1 }) hm hc1.mem rfl).keep hm0))
  replace hc1 := hc1.anew B [(12, .e (.c (.str (p ++ ⟨#[58, 32]⟩)))), (13, .e (.c (.int .i64 e))), (10, .e (.c (.rp ⟨b, 0, none⟩)))] [] [] ⟨rfl, rfl, rfl, trivial⟩
  refine gets_pure (Q := fun _ => True) (c := ⟨118, [.c (.int .i64 e)], [], #[]⟩) 14 (.e (.c (.str (apiSay e)))) [] [] hc1 (by kernel_rfl) (by kernel_rfl) (by kernel_rfl) (by kernel_rfl) (apiSay_calls (B := B) w1 e) (by kernel_rfl) (by kernel_rfl) (fun a2 w2 hn2 _ hc2 => ?_)
  have hs2 := apiSay_size e
  refine gets_run tab_ok 5 hc2 (holds_of (obs := [fun _ => (((p ++ ⟨#[58, 32]⟩).size + (apiSay e).size : Nat) : Int) ≤ 9223372036854775807]) (by kernel_rfl) (by simp only [AllP, ByteArray.size_append, h2, and_true]; omega)) (fun a3 w3 hc3 => ?_)
  refine gets_evo he1 (gets_last (bs := []) (c := ⟨133, [.c (.rp ⟨b, 0, none⟩), .c (.str (p ++ ⟨#[58, 32]⟩ ++ apiSay e)), .c (.f 73 [])], [], #[]⟩) hm1 ((Over.env w1 _).next hc1.mem hn2 _) hc3 (by kernel_rfl) (by kernel_rfl) (by kernel_rfl) Tryz.func99 rfl (by kernel_rfl) (fun _ hm3 _ => ?_))
  have hfit : ({ m with status := 1 } : M).prog.size + (p ++ ⟨#[58, 32]⟩ ++ apiSay e).size + 3 ≤ 9223372036854775807 := by
    show m.prog.size + (p ++ ⟨#[58, 32]⟩ ++ apiSay e).size + 3 ≤ 9223372036854775807
    rw [ByteArray.size_append, ByteArray.size_append, h2]
    omega
  have := complain_calls hm3 (p ++ ⟨#[58, 32]⟩ ++ apiSay e) hfit .none 73 #[] ⟨rfl, rfl⟩
  unfold M.bad
  exact this

end Go.Proofs.YtoihipolfdhhnaaGreatDoor

namespace Go.Proofs.YtoihipolfdhhnaaGreatDoor

theorem callX_fv (ρ : Nat → Nat) (f : FuncId) (args : List E) (c : Array Value) : CallX.real ρ ⟨f, args, [], c⟩ = (args.map (E.real ρ)).toArray ++ c := by simp [CallX.real]

/-- What an answer's closure does. -/
abbrev RCalls (B : Bd) (b : Nat) (w : World) (f : FuncId) (c : Array Value) (m : M) (v : Value) (m' : M) : Prop :=
  ∀ w', Keep B w w' → MOk B w' b m → Calls Tryz.prog f (#[bp b, v] ++ c) w' (Does B b w' m')

def M.tried (m : M) (p : ByteArray) (r : Res) (done : M) : M := if r.err ≠ 0 then m.bad p r.err else done

theorem tried_calls {B : Bd} {w : World} {b : Nat} {m m' : M} (hm : MOk B w b m) (p : ByteArray) (t : Rn) (f : FuncId) (c : Array Value) (hk : RepR B w (.tries p t) f c)
    (r : Res) (a : Option Addr) (n cp : Nat) (hs : m.prog.size + p.size ≤ 1152921504606846976) (ht : r.err = 0 → ∀ tf tc, RepR B w t tf tc → RCalls B b w tf tc m (resV r a n cp) m') :
    Calls Tryz.prog f (#[bp b, resV r a n cp] ++ c) w (Does B b w (m.tried p r m')) := by
  obtain ⟨rfl, k1, k2, tf, tc, rfl, h1, h2, h3⟩ := hk
  unfold M.tried
  by_cases he : r.err = 0
  · rw [if_neg (by simp [he])]
    refine does_tail [.e (.c (.rp ⟨b, 0, none⟩)), rsX r a n cp, .e (.c (.rp ⟨k1, 0, none⟩)), .e (.c (.rp ⟨k2, 0, none⟩))] [false] [.e (.c (.fv tf tc))] 40 [⟨35, r.cs a n cp⟩] ⟨tf, [.c (.rp ⟨b, 0, none⟩), .a (r.cs a n cp)], [], tc⟩
      (obs := [fun _ => (r.err != 0) = false, fun ε => ε.ro ⟨k2, 0, none⟩ = some (.func (.func tf) #[] tc)]) hm Tryz.func130 rfl rfl rfl (by kernel_rfl) (by kernel_rfl) (by kernel_rfl) (by kernel_rfl) rfl h3.enters ⟨by simp [he], Box.sro h2, trivial⟩ (fun w1 _ hm1 hk1 => ?_)
    have := ht he tf tc h3 w1 hk1 hm1
    rw [callX_fv]; exact this
  · rw [if_pos he]
    refine does_tail [.e (.c (.rp ⟨b, 0, none⟩)), rsX r a n cp, .e (.c (.rp ⟨k1, 0, none⟩)), .e (.c (.rp ⟨k2, 0, none⟩))] [true] [.e (.c (.str p))] 40 [⟨35, r.cs a n cp⟩] ⟨99, [.c (.rp ⟨b, 0, none⟩), .c (.str p), .c (.int .i64 r.err)], [], #[]⟩
      (obs := [fun _ => (r.err != 0) = true, fun ε => ε.ro ⟨k1, 0, none⟩ = some (.string p)]) hm Tryz.func130 rfl rfl rfl (by kernel_rfl) (by kernel_rfl) (by kernel_rfl) (by kernel_rfl) rfl (by kernel_rfl) ⟨by simp [he], Box.sro h1, trivial⟩ (fun w1 _ hm1 hk1 => ?_)
    exact bad_calls hm1 p r.err hs

def M.poured (m : M) (s d : Int) (t : Fn) (r : Res) (done : M) : M := if r.err ≠ 0 ∨ (r.text.toList == []) = true then done else m.say d r.text (.pours s d t)

theorem poured_calls {B : Bd} {w : World} {b : Nat} {m m' : M} (hm : MOk B w b m) (s d : Int) (t : Fn) (f : FuncId) (c : Array Value) (hk : RepR B w (.pours s d t) f c)
    (r : Res) (a : Option Addr) (n cp : Nat) (ht : ∀ tf tc, RepF B w t tf tc → KCalls B b w tf tc m m') :
    Calls Tryz.prog f (#[bp b, resV r a n cp] ++ c) w (Does B b w (m.poured s d t r m')) := by
  obtain ⟨rfl, k1, k2, k3, tf, tc, rfl, h1, h2, h3, h4⟩ := hk
  unfold M.poured
  by_cases he : r.err = 0
  · by_cases hx : (r.text.toList == []) = true
    · rw [if_pos (.inr hx)]
      refine does_tail [.e (.c (.rp ⟨b, 0, none⟩)), rsX r a n cp, .e (.c (.rp ⟨k1, 0, none⟩)), .e (.c (.rp ⟨k2, 0, none⟩)), .e (.c (.rp ⟨k3, 0, none⟩))] [false, true] [.e (.c (.fv tf tc))] 60 [⟨35, r.cs a n cp⟩] ⟨tf, [.c (.rp ⟨b, 0, none⟩)], [], tc⟩
        (obs := [fun _ => (r.err != 0) = false, fun _ => (r.text.toList == []) = true, fun ε => ε.ro ⟨k1, 0, none⟩ = some (.func (.func tf) #[] tc)]) hm Tryz.func128 rfl rfl rfl (by kernel_rfl) (by kernel_rfl) (by kernel_rfl) (by kernel_rfl) rfl h2.enters ⟨by simp [he], hx, Box.sro h1, trivial⟩ (fun w1 _ hm1 hk1 => ?_)
      have := ht tf tc h2 w1 hk1 hm1
      simpa [CallX.real, E.real, C.real] using this
    · rw [if_neg (by simp only [not_or]; exact ⟨by simp [he], hx⟩)]
      refine does_tail [.e (.c (.rp ⟨b, 0, none⟩)), rsX r a n cp, .e (.c (.rp ⟨k1, 0, none⟩)), .e (.c (.rp ⟨k2, 0, none⟩)), .e (.c (.rp ⟨k3, 0, none⟩))] [false, false] [.e (.c (.int .i64 d))] 60 [⟨35, r.cs a n cp⟩] ⟨72, [.c (.rp ⟨b, 0, none⟩), .c (.int .i64 d), .c (.str r.text), .c (.f 129 [.r ⟨k3, 0, none⟩, .r ⟨k2, 0, none⟩, .r ⟨k1, 0, none⟩])], [], #[]⟩
        (obs := [fun _ => (r.err != 0) = false, fun _ => (r.text.toList == []) = false, fun ε => ε.ro ⟨k2, 0, none⟩ = some (.int .i64 d)]) hm Tryz.func128 rfl rfl rfl (by kernel_rfl) (by kernel_rfl) (by kernel_rfl) (by kernel_rfl) rfl (by kernel_rfl) ⟨by simp [he], by simpa using hx, Box.sro h3, trivial⟩ (fun w1 _ hm1 hk1 => ?_)
      exact say_calls hm1 d r.text (by simpa using hx) (.pours s d t) 129 _ ⟨rfl, k3, k2, k1, tf, tc, rfl, Box.keep h4 hk1, Box.keep h3 hk1, Box.keep h1 hk1, h2.keep hk1⟩
  · rw [if_pos (.inl he)]
    refine does_tail [.e (.c (.rp ⟨b, 0, none⟩)), rsX r a n cp, .e (.c (.rp ⟨k1, 0, none⟩)), .e (.c (.rp ⟨k2, 0, none⟩)), .e (.c (.rp ⟨k3, 0, none⟩))] [true] [.e (.c (.fv tf tc))] 60 [⟨35, r.cs a n cp⟩] ⟨tf, [.c (.rp ⟨b, 0, none⟩)], [], tc⟩
      (obs := [fun _ => (r.err != 0) = true, fun ε => ε.ro ⟨k1, 0, none⟩ = some (.func (.func tf) #[] tc)]) hm Tryz.func128 rfl rfl rfl (by kernel_rfl) (by kernel_rfl) (by kernel_rfl) (by kernel_rfl) rfl h2.enters ⟨by simp [he], Box.sro h1, trivial⟩ (fun w1 _ hm1 hk1 => ?_)
    have := ht tf tc h2 w1 hk1 hm1
    simpa [CallX.real, E.real, C.real] using this

/- CLOSES -/

/-- Closes: the closure. -/
theorem closes_calls {B : Bd} (w : World) (hx : XsOk B w) (fds : List Int) (a : Option Addr) (n cp : Nat) (h : IntsAt B w a n cp fds) :
    Calls Tryz.prog 82 #[.slice a n cp] w (Gives (.func (.func 131) #[] #[bp w.heap.size]) (fun w' => IntsBox B w' w.heap.size fds) w) := by
  refine gives_end (B := B) [.e (.c (.sl a n cp))] [] [] 40 [⟨47, [.sl a n cp]⟩] (obs := []) Tryz.func82 rfl rfl rfl (by kernel_rfl) (by kernel_rfl) (by kernel_rfl) (l := [.c (.f 131 [.n 0 0])]) (by kernel_rfl) trivial rfl (fun w1 hr1 => ?_)
  exact ⟨a, n, cp, box_of hx hr1 (i := 0) rfl rfl rfl, h.keep (((Over.env w _).rel hr1).keep B)⟩

theorem closes1_calls {B : Bd} {w : World} {b : Nat} {m : M} (hm : MOk B w b m) (fds : List Int) (f : FuncId) (c : Array Value) (hk : RepF B w (.closes fds) f c) :
    Calls Tryz.prog f (#[bp b] ++ c) w (Does B b w (m.closes fds)) := by
  obtain ⟨rfl, k, rfl, a, n, cp, h1, h2⟩ := hk
  cases fds with
  | nil =>
    have hn : n = 0 := h2.len
    refine does_end [.e (.c (.rp ⟨b, 0, none⟩)), .e (.c (.rp ⟨k, 0, none⟩))] [false] [.e (.c (.sl a n cp))] 40 [] (obs := [fun ε => ε.ro ⟨k, 0, none⟩ = some (.slice a n cp), fun _ => decide ((n : Int) > 0) = false]) hm Tryz.func131 rfl rfl rfl (by kernel_rfl) (by kernel_rfl) (by kernel_rfl) rfl ⟨Box.sro h1, by simp [hn], trivial⟩
  | cons fd l =>
    have hn : n = l.length + 1 := h2.len
    obtain ⟨ad, rfl, h3, h4⟩ := h2.at_ 0 fd rfl
    refine does_tail [.e (.c (.rp ⟨b, 0, none⟩)), .e (.c (.rp ⟨k, 0, none⟩))] [true] [.e (.c (.sl (some ad) n cp)), .e (.c (.sl (some ad) n cp)), .e (.c (.int .i64 fd))] 40 [] ⟨69, [.c (.rp ⟨b, 0, none⟩), .a ({ op := 3, fd := fd } : CallD).cs, .c (.f 132 [.r ⟨k, 0, none⟩])], [], #[]⟩
      (obs := [fun ε => ε.ro ⟨k, 0, none⟩ = some (.slice (some ad) n cp), fun _ => decide ((n : Int) > 0) = true, fun ε => ε.ro ⟨k, 0, none⟩ = some (.slice (some ad) n cp), fun _ => 0 ≤ (0 : Int) ∧ (0 : Int) < (n : Int), fun ε => ε.ro (ad.add 0) = some (.int .i64 fd)])
      hm Tryz.func131 rfl rfl rfl (by kernel_rfl) (by kernel_rfl) (by kernel_rfl) (by kernel_rfl) rfl (by kernel_rfl) ⟨Box.sro h1, by simp [hn], Box.sro h1, by omega, sro_of (by rw [addr_add_block]; exact h4) h3, trivial⟩ (fun w1 _ hm1 hk1 => ?_)
    exact sys_calls hm1 { op := 3, fd := fd } (.closes (fd :: l)) 132 _ ⟨rfl, k, rfl, some ad, n, cp, Box.keep h1 hk1, h2.keep hk1⟩

theorem Rel.bs {ε : Env} {bs bs' : List NB} {w : World} (h : Rel ε bs w) (e : bs = bs') : Rel ε bs' w := e ▸ h

theorem IntsAt.tail {B : Bd} {w : World} {a : Option Addr} {n c : Nat} {x : Int} {l : List Int} (h : IntsAt B w a n c (x :: l)) : IntsAt B w (if c = 1 then a else a.map (·.add 1)) (n - 1) (c - 1) l := by
  have hl := h.len
  have hc := h.cap
  simp only [List.length_cons] at hl
  refine ⟨by omega, by omega, fun j s hj => ?_⟩
  have hjl : j < l.length := (List.getElem?_eq_some_iff.1 hj).1
  obtain ⟨ad, h1, h2, h3⟩ := h.at_ (j + 1) s (by simpa using hj)
  refine ⟨ad.add 1, by rw [if_neg (by omega), h1]; rfl, ?_, by rw [addr_add_block]; exact h3⟩
  rw [addr_add_add _ _ _ (.inl (by decide)), Nat.add_comm]; exact h2

theorem StrsAt.tail {B : Bd} {w : World} {a : Option Addr} {n c : Nat} {x : ByteArray} {l : List ByteArray} (h : StrsAt B w a n c (x :: l)) : StrsAt B w (if c = 1 then a else a.map (·.add 1)) (n - 1) (c - 1) l := by
  have hl := h.len
  have hc := h.cap
  simp only [List.length_cons] at hl
  refine ⟨by omega, by omega, fun j s hj => ?_⟩
  have hjl : j < l.length := (List.getElem?_eq_some_iff.1 hj).1
  obtain ⟨ad, h1, h2, h3⟩ := h.at_ (j + 1) s (by simpa using hj)
  refine ⟨ad.add 1, by rw [if_neg (by omega), h1]; rfl, ?_, by rw [addr_add_block]; exact h3⟩
  rw [addr_add_add _ _ _ (.inl (by decide)), Nat.add_comm]; exact h2

/-- closes$1$1, of a list that has one at least. -/
theorem closes11_calls {B : Bd} {w : World} {b : Nat} {m : M} (hm : MOk B w b m) (fd : Int) (l : List Int) (f : FuncId) (c : Array Value) (hk : RepR B w (.closes (fd :: l)) f c) (r : Res) (a : Option Addr) (n cp : Nat) :
    Calls Tryz.prog f (#[bp b, resV r a n cp] ++ c) w (Does B b w (m.closes l)) := by
  obtain ⟨rfl, k, rfl, a', n', cp', h1, h2⟩ := hk
  have hl := h2.len
  have hcap := h2.cap
  simp only [List.length_cons] at hl
  refine enter (B := B) tab_ok [.e (.c (.rp ⟨b, 0, none⟩)), rsX r a n cp, .e (.c (.rp ⟨k, 0, none⟩))] [] [.e (.c (.sl a' n' cp'))] 40 Tryz.func132 rfl rfl rfl (obs := [fun ε => ε.ro ⟨k, 0, none⟩ = some (.slice a' n' cp'), fun _ => True ∧ (0 : Int) ≤ 1 ∧ (1 : Int) ≤ (n' : Int)]) (by kernel_rfl) ⟨Box.sro h1, ⟨trivial, by omega, by omega⟩, trivial⟩ (fun a1 w1 hc1 => ?_)
  have hbs : (run Tab Tryz.f132.ntmps 40 (code Tryz.f132) (ini [.e (.c (.rp ⟨b, 0, none⟩)), rsX r a n cp, .e (.c (.rp ⟨k, 0, none⟩))] [] [.e (.c (.sl a' n' cp'))])).2.bs = [⟨35, r.cs a n cp⟩] := by kernel_rfl
  have hn1 := (Over.env w _).rel hc1.mem
  have hcl := closes_calls (B := B) w1 (hm.xs.keep (hn1.keep B)) l _ _ _ ((h2.keep (hn1.keep B)).tail)
  refine gets_pure (Q := fun w' => IntsBox B w' w1.heap.size l) (c := ⟨82, [.c (.sl (if cp' = 1 then a' else a'.map (·.add (1 * 1))) (n' - 1) (cp' - 1))], [], #[]⟩) 7 (.e (.c (.fv 131 #[bp w1.heap.size]))) [] [] hc1 (by kernel_rfl) (by kernel_rfl) (by kernel_rfl) (by kernel_rfl) hcl (by kernel_rfl) (by kernel_rfl) (fun a2 w2 hn2 hq2 hc2 => ?_)
  have hov := (Over.env w (sro B w)).next hc1.mem hn2 (sro B w)
  refine gets_run tab_ok 5 hc2 (holds_of (obs := []) (by kernel_rfl) trivial) (fun a3 w3 hc3 => ?_)
  refine gets_last (bs := [⟨35, r.cs a n cp⟩]) (c := ⟨131, [.c (.rp ⟨b, 0, none⟩)], [], #[bp w1.heap.size]⟩) hm hov hc3 (by kernel_rfl) (by kernel_rfl) (by kernel_rfl) Tryz.func132 rfl (by kernel_rfl) (fun hr3 hm3 hk3 => ?_)
  have hn3 := (hc2.mem.bs hbs).same hr3
  exact closes1_calls hm3 l 131 #[bp w1.heap.size] ⟨rfl, w1.heap.size, rfl, hq2.keep (hn3.keep B)⟩

end Go.Proofs.YtoihipolfdhhnaaGreatDoor

namespace Go.Proofs.YtoihipolfdhhnaaGreatDoor

theorem AllT.lk {ρ ρ' : Nat → Nat} {st : List (Nat × SV)} {tl : List (Nat × SV)} (h : AllT ρ ρ' st tl) {d : Nat} {v : SV} (hd : lk d tl = some v) : ∃ u, Go.Proofs.YtoihipolfdhhnaaGreatDoor.lk d st = some u ∧ u.real ρ = v.real ρ' := by
  induction tl with
  | nil => cases hd
  | cons x l ih =>
    obtain ⟨x1, x2⟩ := x
    simp only [Go.Proofs.YtoihipolfdhhnaaGreatDoor.lk] at hd
    split at hd
    · rename_i e
      cases hd
      subst e
      obtain ⟨h1, _⟩ := h
      simp only at h1
      cases hv : Go.Proofs.YtoihipolfdhhnaaGreatDoor.lk x1 st with
      | none => rw [hv] at h1; cases h1
      | some v' =>
        rw [hv] at h1
        simp only [Option.map_some, Option.some.injEq] at h1
        exact ⟨v', rfl, h1⟩
    · exact ih h.2 hd

theorem lk_notin {d : Nat} {tl : List (Nat × SV)} (h : (tl.all fun x => x.1 != d) = true) : lk d tl = none := by
  induction tl with
  | nil => rfl
  | cons x l ih =>
    simp only [List.all_cons, Bool.and_eq_true, bne_iff_ne] at h
    simp only [lk, if_neg h.1, ih h.2]

/-- A call that works on the machine; behind it no names. -/
theorem gets_does {B : Bd} {b : Nat} {ε : Env} {nt : Nat} {f : FuncId} {k : List Item} {σ : St} {a : Act} {w : World} {R : Ending → World → Prop} {c : CallX} {m1 : M} (d : Nat) (tl : List (Nat × SV)) (orc : List Bool) (ext : List SV)
    (hc : CRel ε nt σ a w) (hx : callX k σ = some c) (he : enters Tryz.prog c.fn = true) (hd : dstX k = some d) (hdn : (tl.all fun x => x.1 != d) = true)
    (hcall : Calls Tryz.prog c.fn (c.real ε.ρ) w (Does B b w m1)) (hT : ∀ ρ', AllT ε.ρ ρ' σ.tl tl)
    (h : ∀ a' w', MOk B w' b m1 → Evo w b w' → CRel (env0 B w') nt { tl := tl, bs := [], orc := orc, ext := ext } a' w' → Gets Tryz.prog f (popX k) a' w' R) : Gets Tryz.prog f k a w R := by
  refine gets_call hc hx he hcall (fun e w' ⟨h1, h2, h3⟩ => ⟨_, h1, ?_⟩)
  rw [hd]
  refine h _ w' h2 h3 ⟨fun d' v hd' => ?_, by rw [Act.put_size]; exact hc.size, by rw [Act.put_defers']; exact hc.defers, rel_nil w' _ (fun _ _ h => (sro_le h).2)⟩
  obtain ⟨u, hu1, hu2⟩ := (hT (env0 B w').ρ).lk hd'
  have hne : d' ≠ d := by
    rintro rfl
    rw [lk_notin hdn] at hd'
    cases hd'
  show (a.tmps.setIfInBounds d _)[d']? = _
  rw [Array.getElem?_setIfInBounds_ne (fun e => hne e.symm), hc.tl d' u hu1, hu2]

/-- A drawn region that reads, with a call at its end; then the function's end. -/
theorem gets_dlast {B : Bd} {b : Nat} {w0 w : World} {m m' : M} {ε : Env} {nt : Nat} {f : FuncId} {fn : Func} {k : List Item} {σ : St} {a : Act} (q : Nat) (bs : List NB) (c : CallX) {obs : List (Env → Prop)} (hm : MOk B w0 b m) (hov : Over w0 ε) (hro : ε.ro = sro B w0)
    (hc : CRel ε nt σ a w) (hbs : σ.bs = bs) (hts : (bs.all fun b => b.ty != 66 && b.ty != 84 && b.ty != 39) = true)
    (hd : isDraw k = true) (hq : (drawOps k).size = q + 1)
    (hdt : (dtake Tab nt (drawOps k) (List.range q) (Array.replicate (q + 1) false) σ).map (fun x => (x.1, x.2.ob)) = some (allBut q, obs)) (hrd : Region.ready .any (drawOps k) (allBut q) = [q])
    (hrd2 : Region.ready .any (drawOps k) ((allBut q).setIfInBounds q true) = [])
    (hx : (dtake Tab nt (drawOps k) (List.range q) (Array.replicate (q + 1) false) σ).bind (fun x => callX [.inRegion (drawOps k) [q]] x.2) = some c)
    (hk : isFin (ctl 30 (drawTail k)) = true) (hf : Tryz.prog.funcs[f]? = some fn) (hr : fn.results = #[]) (he : enters Tryz.prog c.fn = true)
    (hobs : AllP obs ε) (hcall : ∀ w1, Rel ε bs w1 → MOk B w1 b m → Keep B w0 w1 → Calls Tryz.prog c.fn (c.real ε.ρ) w1 (Does B b w1 m')) : Gets Tryz.prog f k a w (Does B b w0 m') := by
  obtain ⟨l, σ2, hdt', ho⟩ : ∃ l σ2, dtake Tab nt (drawOps k) (List.range q) (Array.replicate (q + 1) false) σ = some (l, σ2) ∧ l = allBut q ∧ σ2.ob = obs := by
    cases h : dtake Tab nt (drawOps k) (List.range q) (Array.replicate (q + 1) false) σ with
    | none => rw [h] at hdt; cases hdt
    | some x =>
      rw [h] at hdt
      simp only [Option.map_some, Option.some.injEq, Prod.mk.injEq] at hdt
      exact ⟨x.1, x.2, rfl, hdt⟩
  obtain ⟨rfl, ho⟩ := ho
  rw [hdt'] at hx
  simp only [Option.bind_some] at hx
  clear hdt
  have hob2 : σ2.holds ε := holds_of ho hobs
  unfold isDraw at hd
  split at hd
  · rename_i id ops k'
    simp only [drawOps, drawTail] at hq hdt' hrd hrd2 hx hk
    have hmem : Rel ε bs { w with drawn := w.drawn + 1 } := by have := hc.mem.drew (w.drawn + 1); rwa [hbs] at this
    have hn := hov.rel hmem
    obtain ⟨hm1, he1⟩ := hm.fresh hn
    refine gets_draw (S := Sees ε bs) (by kernel_rfl) ?_
    have hsz : ops.size = 1 + (List.range q).length := by rw [hq]; simp [Nat.add_comm]
    rw [hsz]
    have hrep : 1 + (List.range q).length = q + 1 := by simp [Nat.add_comm]
    have hrep2 : Array.replicate (1 + (List.range q).length) false = Array.replicate (q + 1) false := congrArg (fun n => Array.replicate n false) hrep
    rw [hrep2]
    refine dgets_take tab_ok hd hmem.sees _ _ _ _ _ _ hdt' hbs hc.tl hc.size hob2 (fun a2 h2 h3 h4 => ?_)
    refine dgets_call h2 hrd hx he (hcall _ hmem hm1 (hn.keep B)) (fun e w' hS => ⟨.tuple #[], hS.1, ?_, ?_⟩)
    · have hk2 := (he1.trans hS.2.2)
      refine ⟨fun i nb hi => ?_, fun ad v hv => sro_keep (hk2.keep hm) (hro ▸ hv)⟩
      have hb1 := hmem.cells i nb hi
      have hty := List.all_eq_true.1 hts nb (List.mem_of_getElem? hi)
      simp only [Bool.and_eq_true, bne_iff_ne] at hty
      exact (hS.2.2.keep hm1).cells hb1 hty.1.1 hty.1.2 hty.2 (hm.notx (hov.above hmem (List.getElem?_eq_some_iff.1 hi).1))
    · refine dgets_done 0 hrd2 ?_
      refine gets_end0 (by rw [Act.put_defers', h4]; exact hc.defers) hf hr hk ⟨rfl, hS.2.1, he1.trans hS.2.2⟩
  · cases hd

end Go.Proofs.YtoihipolfdhhnaaGreatDoor

namespace Go.Proofs.YtoihipolfdhhnaaGreatDoor

/-- What a word's closure does. -/
abbrev ECalls (B : Bd) (b : Nat) (w : World) (f : FuncId) (c : Array Value) (m : M) (s : ByteArray) (m' : M) : Prop :=
  ∀ w', Keep B w w' → MOk B w' b m → Calls Tryz.prog f (#[bp b, .string s] ++ c) w' (Does B b w' m')

/-- Each, of no words. -/
theorem each_nil {B : Bd} {w : World} {b : Nat} {m : M} (hm : MOk B w b m) (a : Option Addr) (cp : Nat) (f : FuncId) (c : Array Value) :
    Calls Tryz.prog 77 #[bp b, .slice a 0 cp, .func (.func f) #[] c] w (Does B b w m) :=
  does_end [.e (.c (.rp ⟨b, 0, none⟩)), .e (.c (.sl a 0 cp)), .e (.c (.fv f c))] [true] [] 40 [⟨22, [.sl a 0 cp]⟩, ⟨117, [.fv f c]⟩] (obs := [fun _ => (((0 : Nat) : Int) == 0) = true]) hm Tryz.func77 rfl rfl rfl (by kernel_rfl) (by kernel_rfl) (by kernel_rfl) rfl ⟨rfl, trivial⟩

/-- Each, of a word and others. -/
theorem each_cons {B : Bd} {w : World} {b : Nat} {m m' : M} (hm : MOk B w b m) (s : ByteArray) (l : List ByteArray) (a : Option Addr) (n cp : Nat) (hl : StrsAt B w a n cp (s :: l)) (e : Ef) (f : FuncId) (c : Array Value) (hk : RepE B w e f c)
    (hlen : m.todo.length ≤ 1000000) (ht : ECalls B b w f c (m.push (.each (s :: l) e)) s m') :
    Calls Tryz.prog 77 #[bp b, .slice a n cp, .func (.func f) #[] c] w (Does B b w m') := by
  have hn := hl.len
  simp only [List.length_cons] at hn
  obtain ⟨ad, rfl, hcell, hsafe⟩ := hl.at_ 0 s rfl
  refine enter (B := B) tab_ok [.e (.c (.rp ⟨b, 0, none⟩)), .e (.c (.sl (some ad) n cp)), .e (.c (.fv f c))] [false] [] 40 Tryz.func77 rfl rfl rfl (obs := [fun _ => ((n : Int) == 0) = false]) (by kernel_rfl) ⟨by rw [hn]; simp; omega, trivial⟩ (fun a1 w1 hc1 => ?_)
  have hr1 := hc1.mem.bs (bs' := [⟨22, [.sl (some ad) n cp]⟩, ⟨117, [.fv f c]⟩]) (by kernel_rfl)
  have hn1 := (Over.env w _).rel hc1.mem
  obtain ⟨hm1, he1⟩ := hm.fresh hn1
  have hk1 := he1.keep hm
  have hb1 : Box B w1 w.heap.size 22 (.slice (some ad) n cp) := box_of hm.xs hr1 (i := 0) rfl rfl rfl
  have hb2 : Box B w1 (w.heap.size + 1) 117 (.func (.func f) #[] c) := box_of hm.xs hr1 (i := 1) rfl rfl rfl
  have hrep : RepF B w1 (.each (s :: l) e) 127 #[bp w.heap.size, bp (w.heap.size + 1)] := ⟨rfl, _, _, f, c, rfl, ⟨some ad, n, cp, hb1, hl.keep hk1⟩, hb2, hk.keep hk1⟩
  refine gets_evo he1 (gets_does (c := ⟨22, [.c (.rp ⟨b, 0, none⟩), .c (.f 127 [.n 0 0, .n 1 0])], [], #[]⟩) 11 [(0, .e (.c (.rp ⟨b, 0, none⟩))), (4, .e (.c (.rp ⟨w.heap.size, 0, none⟩))), (5, .e (.c (.rp ⟨w.heap.size + 1, 0, none⟩)))] [] [.e (.c (.fv f c)), .e (.c (.sl (some ad) n cp)), .e (.c (.str s))]
    hc1 (by kernel_rfl) (by kernel_rfl) (by kernel_rfl) rfl (push_calls hm1 hlen hm1.le (.each (s :: l) e) 127 _ hrep) (fun ρ' => ⟨rfl, rfl, rfl, trivial⟩) (fun a2 w2 hm2 he2 hc2 => ?_))
  have hk2 := he2.keep hm1
  refine gets_run tab_ok 5 hc2 (holds_of (obs := []) (by kernel_rfl) trivial) (fun a3 w3 hc3 => ?_)
  have hsafe2 := (hsafe.keep (by have := World.block_lt_of_cell? w _ hcell; rwa [addr_add_block] at this) (hk1.trans hk2))
  have hcell2 : w2.cell? (ad.add 0) = some (.string s) := by
    obtain ⟨ad', e1, h3, _⟩ := (hl.keep (hk1.trans hk2)).at_ 0 s rfl
    cases e1
    exact h3
  refine gets_evo he2 (gets_dlast 5 [] ⟨f, [.c (.rp ⟨b, 0, none⟩), .c (.str s)], [], c⟩ (obs := [fun ε => ε.ro ⟨w.heap.size + 1, 0, none⟩ = some (.func (.func f) #[] c), fun ε => ε.ro ⟨w.heap.size, 0, none⟩ = some (.slice (some ad) n cp), fun _ => 0 ≤ (0 : Int) ∧ (0 : Int) < (n : Int), fun ε => ε.ro (ad.add 0) = some (.string s)])
    hm2 (Over.env w2 _) rfl hc3 (by kernel_rfl) rfl (by kernel_rfl) (by kernel_rfl) (by kernel_rfl) (by kernel_rfl) (by kernel_rfl) (by kernel_rfl) (by kernel_rfl) Tryz.func77 rfl hk.enters ⟨Box.sro (hb2.keep hk2), Box.sro (hb1.keep hk2), by omega, sro_of (by rw [addr_add_block]; exact hsafe2) hcell2, trivial⟩ (fun w4 _ hm4 hk4 => ?_))
  rw [callX_fv]
  exact ht w4 ((hk1.trans hk2).trans hk4) hm4

end Go.Proofs.YtoihipolfdhhnaaGreatDoor

namespace Go.Proofs.YtoihipolfdhhnaaGreatDoor

def wrap64 (n : Int) : Int := IntKind.i64.wrap n

/-- copies$1. -/
def M.copied1 (m : M) (src dst : ByteArray) (r : Res) : M :=
  if r.info.kind = 1 then m.bad src 7 else m.tries { op := 2, path := src, want := 4 } src (.copies2 dst (IntKind.i64.wrap (BitVec.ofInt 64 r.info.mode &&& BitVec.ofInt 64 511).toNat))

/-- Does a text hold a byte? -/
def holdsB (s : ByteArray) (c : UInt8) : Bool := decide (0 ≤ Lib.indexByte s.data.toList c)

def M.gone1 (m : M) (p has : ByteArray) (deep : Int) (r : Res) : M :=
  if r.err = 0 ∨ (r.err = 3 ∧ holdsB has 102 = true) then m
  else if r.err ≠ 7 ∨ holdsB has 114 = false then m.bad p r.err
  else m.tries { op := 9, path := p } p (.goneL p has deep)

def lastOf (l : List ByteArray) : ByteArray := l.getD (l.length - 1) ⟨#[]⟩

def runPlaces (l : List ByteArray) (br : Bring) (m : M) : M :=
  if l.length < 2 then m.wrong else m.sys { op := 8, path := lastOf l } (.places l ((l.length : Int) - 1) (lastOf l) br)

def M.copied3 (m : M) (dst : ByteArray) (ra r : Res) : M :=
  if r.err ≠ 0 then (m.push (.closes [ra.n])).bad dst r.err else m.pours ra.n r.n (.closes [ra.n, r.n])

/-- Is a byte one of two? -/
def two (x y c : UInt8) : Bool := c == x || c == y

/-- Is a word of flags right? -/
def right (x y : UInt8) (s : ByteArray) : Bool := !(s.toList == [45]) && s.data.toList.tail.all (two x y)

/-- The flags at the beginning, and what is left; none: one is wrong. -/
def flagsG (x y : UInt8) : List ByteArray → ByteArray → Option (ByteArray × List ByteArray)
  | [], has => some (has, [])
  | s :: l, has => if beginsWith s ⟨#[45]⟩ = true then (if right x y s = true then flagsG x y l (has ++ s.extract 1 s.size) else none) else some (has, s :: l)

/-- With what is done with a word. -/
def runE : Ef → ByteArray → M → M
  | .cat, s, m => if (s.toList == [45]) = true then m.pours 0 1 .none else m.tries { op := 2, path := s, want := 4 } s .cat
  | .mk, s, m => m.tries { op := 10, path := s, mode := 511 } s (.noop 86)
  | .rmd, s, m => m.tries { op := 11, path := s, dir := true } s (.noop 86)
  | .rm has, s, m => m.gone s has 0
  | .gone p has deep, s, m => m.gone (join p s) has (wrap64 (deep + 1))
  | .place pl false br, s, m => m.bring br s pl
  | _, _, m => m

def okE : Ef → ByteArray → M → Prop
  | .cat, _, _ => True
  | .mk, _, _ => True
  | .rmd, _, _ => True
  | .rm _, s, m => m.prog.size + s.size ≤ 1152921504606846976
  | .gone p _ _, s, m => m.prog.size + p.size + s.size + 1 ≤ 1152921504606846976
  | .place _ false _, _, _ => True
  | _, _, _ => False

def runEach : List ByteArray → Ef → M → M
  | [], _, m => m
  | s :: l, e, m => runE e s (m.push (.each (s :: l) e))

def okEach : List ByteArray → Ef → M → Prop
  | [], _, _ => True
  | s :: l, e, m => m.todo.length ≤ 1000000 ∧ okE e s (m.push (.each (s :: l) e))

def isDir (r : Res) : Bool := (r.err == 0) && (r.info.kind == 1)

def runPlace (l : List ByteArray) (last : Int) (pl : ByteArray) (br : Bring) (r : Res) (m : M) : M :=
  if last > 1 ∧ isDir r = false then m.wrong else runEach (l.take last.toNat) (.place pl (isDir r) br) m

def runRm (l : List ByteArray) (m : M) : M :=
  match flagsG 102 114 l ⟨#[]⟩ with
  | none => m.wrong
  | some (has, rest) => if rest = [] ∧ holdsB has 102 = false then m.wrong else runEach rest (.rm has) m

def okRm (l : List ByteArray) (m : M) : Prop :=
  match flagsG 102 114 l ⟨#[]⟩ with
  | none => False
  | some (has, rest) => m.prog.size ≤ 1152921504606846976 ∧ (l.map ByteArray.size).sum ≤ 9223372036854775807 ∧ okEach rest (.rm has) m

def runD : Dp → List ByteArray → M → M
  | .tru, _, m => m
  | .fls, _, m => { m with status := 1 }
  | .id, _, m => m.sys { op := 22 } .id
  | .cat, [], m => runEach [⟨#[45]⟩] .cat m
  | .cat, l, m => runEach l .cat m
  | .mkdir, l, m => if l = [] then m.wrong else runEach l .mk m
  | .rmdir, l, m => if l = [] then m.wrong else runEach l .rmd m
  | .ln, l, m => runPlaces l (.ren 12) m
  | .mv, l, m => runPlaces l (.ren 13) m
  | .cp, l, m => runPlaces l .cop m
  | .rm, l, m => runRm l m
  | _, _, m => m

def okD : Dp → List ByteArray → M → Prop
  | .fls, _, _ => True
  | .id, _, _ => True
  | .tru, _, _ => True
  | .cat, l, m => l ≠ [] ∧ okEach l .cat m
  | .mkdir, l, m => m.prog.size ≤ 1152921504606846976 ∧ (l = [] ∨ okEach l .mk m)
  | .rmdir, l, m => m.prog.size ≤ 1152921504606846976 ∧ (l = [] ∨ okEach l .rmd m)
  | .ln, l, m => m.prog.size ≤ 1152921504606846976 ∧ l.length ≤ 1000000
  | .mv, l, m => m.prog.size ≤ 1152921504606846976 ∧ l.length ≤ 1000000
  | .cp, l, m => m.prog.size ≤ 1152921504606846976 ∧ l.length ≤ 1000000
  | .rm, l, m => okRm l m
  | _, _, _ => False

def runK : Fn → M → M
  | .exit0, m => m.exit m.status
  | .start d ws, m => runD d ws (m.push .exit0)
  | .none, m => m
  | .exit1, m => m.exit 1
  | .each l e, m => runEach l.tail e m
  | .pours s d t, m => m.pours s d t
  | .closes fds, m => m.closes fds
  | .goneD p, m => m.tries { op := 11, path := p, dir := true } p (.noop 142)
  | _, m => m

def okK : Fn → M → Prop
  | .exit0, _ => True
  | .start d ws, m => m.todo.length ≤ 1000000 ∧ okD d ws (m.push .exit0)
  | .none, _ => True
  | .exit1, _ => True
  | .each l e, m => l ≠ [] ∧ okEach l.tail e m
  | .pours _ _ _, _ => True
  | .closes _, _ => True
  | .goneD _, _ => True
  | _, _ => False

/-- The line that id says. -/
def dec (n : Int) : ByteArray := ⟨(Lib.itoa n).toArray⟩

def idText (c : CredD) : ByteArray :=
  let s := (⟨#[117, 105, 100, 61]⟩ : ByteArray) ++ dec c.real_ ++ ⟨#[32, 103, 105, 100, 61]⟩ ++ dec c.group
  let s := if c.eff ≠ c.real_ then s ++ (⟨#[32, 101, 117, 105, 100, 61]⟩ ++ dec c.eff) else s
  let s := if c.effGroup ≠ c.group then s ++ (⟨#[32, 101, 103, 105, 100, 61]⟩ ++ dec c.effGroup) else s
  s ++ ⟨#[10]⟩

def runR : Rn → Res → M → M
  | .say fd text t, r, m => m.said fd text t r (runK t m)
  | .tries p t, r, m => m.tried p r (runR t r m)
  | .pours s d t, r, m => m.poured s d t r (runK t m)
  | .closes fds, _, m => m.closes fds.tail
  | .cat, r, m => m.pours r.n 1 (.closes [r.n])
  | .id, r, m => m.say 1 (idText r.cred) .none
  | .noop _, _, m => m
  | .gone p has deep, r, m => m.gone1 p has deep r
  | .goneL p has deep, r, m => runEach r.names (.gone p has deep) (m.push (.goneD p))
  | .places l last pl br, r, m => runPlace l last pl br r m
  | .copies1 src dst, r, m => m.copied1 src dst r
  | .copies2 dst mode, r, m => m.sys { op := 2, path := dst, want := 2, make := true, empty := true, hmode := mode } (.copies3 dst r)
  | .copies3 dst ra, r, m => m.copied3 dst ra r
  | _, _, m => m

/-- The numbers of a cred are ints. -/
structure CredIn (c : CredD) : Prop where
  r0 : -9223372036854775808 ≤ c.real_
  r1 : c.real_ ≤ 9223372036854775807
  e0 : -9223372036854775808 ≤ c.eff
  e1 : c.eff ≤ 9223372036854775807
  g0 : -9223372036854775808 ≤ c.group
  g1 : c.group ≤ 9223372036854775807
  f0 : -9223372036854775808 ≤ c.effGroup
  f1 : c.effGroup ≤ 9223372036854775807

def okR : Rn → Res → M → Prop
  | .say _ _ t, _, m => okK t m
  | .tries p t, r, m => m.prog.size + p.size ≤ 1152921504606846976 ∧ (r.err = 0 → okR t r m)
  | .pours _ _ t, _, m => okK t m
  | .closes fds, _, _ => fds ≠ []
  | .cat, _, _ => True
  | .id, r, _ => CredIn r.cred
  | .noop _, _, _ => True
  | .gone p _ _, _, m => m.prog.size + p.size ≤ 1152921504606846976
  | .goneL p has deep, r, m => m.todo.length ≤ 1000000 ∧ okEach r.names (.gone p has deep) (m.push (.goneD p))
  | .places l last pl br, r, m => (0 ≤ last ∧ last ≤ l.length) ∧ m.prog.size ≤ 1152921504606846976 ∧ ((last > 1 ∧ isDir r = false) ∨ okEach (l.take last.toNat) (.place pl (isDir r) br) m)
  | .copies1 src _, _, m => m.prog.size + src.size ≤ 1152921504606846976
  | .copies2 _ _, _, _ => True
  | .copies3 dst _, _, m => m.prog.size + dst.size ≤ 1152921504606846976 ∧ m.todo.length ≤ 1000000
  | _, _, _ => False

/-- The rows are worked off until there is a call: n steps at most. -/
def turn : Nat → M → M
  | 0, m => m
  | n + 1, m => match m.thn, m.over with
    | none, false => match m.todo.getLast? with
      | none => m.exit 0
      | some k => turn n (runK k { m with todo := m.todo.dropLast })
    | _, _ => m

/-- Next. -/
def next (n : Nat) (m : M) (r : Res) : M :=
  if m.over then m else turn n (match m.thn with
    | some t => runR t r { m with thn := none }
    | none => m)

end Go.Proofs.YtoihipolfdhhnaaGreatDoor

namespace Go.Proofs.YtoihipolfdhhnaaGreatDoor

/-- What is to be shown of what is done with words. -/
def EOk (e : Ef) : Prop := ∀ {B : Bd} {w : World} {b : Nat} {m : M} (s : ByteArray) (f : FuncId) (c : Array Value), MOk B w b m → RepE B w e f c → okE e s m → Calls Tryz.prog f (#[bp b, .string s] ++ c) w (Does B b w (runE e s m))

theorem each_calls {B : Bd} {w : World} {b : Nat} {m : M} (hm : MOk B w b m) (l : List ByteArray) (a : Option Addr) (n cp : Nat) (hl : StrsAt B w a n cp l) (e : Ef) (he : EOk e) (f : FuncId) (c : Array Value) (hk : RepE B w e f c) (hok : okEach l e m) :
    Calls Tryz.prog 77 #[bp b, .slice a n cp, .func (.func f) #[] c] w (Does B b w (runEach l e m)) := by
  cases l with
  | nil =>
    have hn : n = 0 := hl.len
    subst hn
    exact each_nil hm a cp f c
  | cons s l =>
    exact each_cons hm s l a n cp hl e f c hk hok.1 (fun w' hk' hm' => he s f c hm' (hk.keep hk') hok.2)

theorem each1_calls {B : Bd} {w : World} {b : Nat} {m : M} (hm : MOk B w b m) (s : ByteArray) (l : List ByteArray) (e : Ef) (he : EOk e) (f : FuncId) (c : Array Value) (hk : RepF B w (.each (s :: l) e) f c) (hok : okEach l e m) :
    Calls Tryz.prog f (#[bp b] ++ c) w (Does B b w (runEach l e m)) := by
  obtain ⟨rfl, k1, k2, ef, ec, rfl, ⟨a, n, cp, h1, h2⟩, h3, h4⟩ := hk
  have hl := h2.len
  have hcap := h2.cap
  simp only [List.length_cons] at hl
  refine does_draw [.e (.c (.rp ⟨b, 0, none⟩)), .e (.c (.rp ⟨k1, 0, none⟩)), .e (.c (.rp ⟨k2, 0, none⟩))] [] [.e (.c (.sl a n cp)), .e (.c (.fv ef ec))] 20 4 [] ⟨77, [.c (.rp ⟨b, 0, none⟩), .c (.sl (if cp = 1 then a else a.map (·.add (1 * 1))) (n - 1) (cp - 1)), .c (.fv ef ec)], [], #[]⟩
    (obs := [fun ε => ε.ro ⟨k1, 0, none⟩ = some (.slice a n cp), fun _ => True ∧ (0 : Int) ≤ 1 ∧ (1 : Int) ≤ (n : Int), fun ε => ε.ro ⟨k2, 0, none⟩ = some (.func (.func ef) #[] ec)])
    hm Tryz.func127 rfl rfl rfl (by kernel_rfl) (by kernel_rfl) (by kernel_rfl) (by kernel_rfl) (by kernel_rfl) (by kernel_rfl) rfl (by kernel_rfl) (by kernel_rfl) rfl (by kernel_rfl) ⟨Box.sro h1, ⟨trivial, by omega, by omega⟩, Box.sro h3, trivial⟩ (fun w1 hr1 hm1 hk1 => ?_)
  exact each_calls hm1 l _ _ _ ((h2.keep hk1).tail) e he ef ec (h4.keep hk1) hok

/- CAT -/

theorem cat_word : EOk .cat := by
  intro B w b m s f c hm hk _
  obtain ⟨rfl, rfl⟩ := hk
  simp only [runE]
  by_cases hs : (s.toList == [45]) = true
  · rw [if_pos hs]
    refine does_tail [.e (.c (.rp ⟨b, 0, none⟩)), .e (.c (.str s))] [true] [] 40 [] ⟨79, [.c (.rp ⟨b, 0, none⟩), .c (.int .i64 0), .c (.int .i64 1), .c (.f 73 [])], [], #[]⟩ (obs := [fun _ => (s.toList == (⟨#[45]⟩ : ByteArray).toList) = true]) hm Tryz.func78 rfl rfl rfl (by kernel_rfl) (by kernel_rfl) (by kernel_rfl) (by kernel_rfl) rfl (by kernel_rfl) ⟨by rw [ByteArray.toList_eq ⟨#[45]⟩]; exact hs, trivial⟩ (fun w1 _ hm1 _ => ?_)
    exact pours_calls hm1 0 1 .none 73 #[] ⟨rfl, rfl⟩
  · rw [if_neg hs]
    refine does_tail [.e (.c (.rp ⟨b, 0, none⟩)), .e (.c (.str s))] [false] [] 40 [] ⟨80, [.c (.rp ⟨b, 0, none⟩), .a ({ op := 2, path := s, want := 4 } : CallD).cs, .c (.str s), .c (.f 81 [])], [], #[]⟩ (obs := [fun _ => (s.toList == (⟨#[45]⟩ : ByteArray).toList) = false]) hm Tryz.func78 rfl rfl rfl (by kernel_rfl) (by kernel_rfl) (by kernel_rfl) (by kernel_rfl) rfl (by kernel_rfl) ⟨by rw [ByteArray.toList_eq ⟨#[45]⟩]; simpa using hs, trivial⟩ (fun w1 _ hm1 _ => ?_)
    exact tries_calls hm1 { op := 2, path := s, want := 4 } s .cat 81 #[] ⟨rfl, rfl⟩

theorem cat_calls {B : Bd} {w : World} {b : Nat} {m : M} (hm : MOk B w b m) (s : ByteArray) (l : List ByteArray) (a : Option Addr) (n cp : Nat) (hl : StrsAt B w a n cp (s :: l)) (hok : okEach (s :: l) .cat m) :
    Calls Tryz.prog 42 #[bp b, .slice a n cp] w (Does B b w (runEach (s :: l) .cat m)) := by
  have hn := hl.len
  simp only [List.length_cons] at hn
  refine does_tail [.e (.c (.rp ⟨b, 0, none⟩)), .e (.c (.sl a n cp))] [false] [] 40 [] ⟨77, [.c (.rp ⟨b, 0, none⟩), .c (.sl a n cp), .c (.f 78 [])], [], #[]⟩ (obs := [fun _ => ((n : Int) == 0) = false]) hm Tryz.func42 rfl rfl rfl (by kernel_rfl) (by kernel_rfl) (by kernel_rfl) (by kernel_rfl) rfl (by kernel_rfl) ⟨by rw [hn]; simp; omega, trivial⟩ (fun w1 _ hm1 hk1 => ?_)
  exact each_calls hm1 (s :: l) a n cp (hl.keep hk1) .cat cat_word 78 #[] ⟨rfl, rfl⟩ hok

theorem Sees.first {ε : Env} {bs bs' : List NB} {w : World} (h : Sees ε (bs ++ bs') w) : Sees ε bs w :=
  ⟨fun i b hi => h.cells i b (by rw [List.getElem?_append_left (List.getElem?_eq_some_iff.1 hi).1]; exact hi), h.ro⟩

theorem cat11_calls {B : Bd} {w : World} {b : Nat} {m : M} (hm : MOk B w b m) (r : Res) (a : Option Addr) (n cp : Nat) :
    Calls Tryz.prog 81 #[bp b, resV r a n cp] w (Does B b w (m.pours r.n 1 (.closes [r.n]))) := by
  refine enter (B := B) tab_ok [.e (.c (.rp ⟨b, 0, none⟩)), rsX r a n cp] [] [] 20 Tryz.func81 rfl rfl rfl (obs := []) (by kernel_rfl) trivial (fun a1 w1 hc1 => ?_)
  replace hc1 := hc1.pick [(0, .e (.c (.rp ⟨b, 0, none⟩))), (3, .e (.c (.p 0 0)))] [⟨35, r.cs a n cp⟩] (by kernel_rfl) (by kernel_rfl)
  have hmem : Rel (env0 B w) [⟨35, r.cs a n cp⟩] { w1 with drawn := w1.drawn + 1 } := hc1.mem.drew _
  refine gets_draw (S := Sees (env0 B w) [⟨35, r.cs a n cp⟩]) (by kernel_rfl) ?_
  refine dgets_take (fuel := 3) (l' := #[true, true, true, true, true, false, false, false]) tab_ok (by kernel_rfl) hmem.sees [0, 1, 2, 3, 4] _ { tl := [(0, .e (.c (.rp ⟨b, 0, none⟩))), (3, .e (.c (.p 0 0)))], bs := [⟨35, r.cs a n cp⟩] } { tl := [(8, .e (.c (.int .i64 r.n))), (7, .e (.c (.p 0 1))), (6, .e (.c (.int .i64 r.n))), (5, .e (.c (.p 0 1))), (4, .e (.c (.rp ⟨b, 0, none⟩))), (0, .e (.c (.rp ⟨b, 0, none⟩))), (3, .e (.c (.p 0 0)))], bs := [⟨35, r.cs a n cp⟩] } _ (by kernel_rfl) rfl hc1.tl hc1.size (fun p hp => by cases hp) (fun a2 h2 h3 h4 => ?_)
  have hc2 : CRel (env0 B w) Tryz.f81.ntmps { tl := [(8, .e (.c (.int .i64 r.n))), (7, .e (.c (.p 0 1))), (6, .e (.c (.int .i64 r.n))), (5, .e (.c (.p 0 1))), (4, .e (.c (.rp ⟨b, 0, none⟩))), (0, .e (.c (.rp ⟨b, 0, none⟩))), (3, .e (.c (.p 0 0)))], bs := [⟨35, r.cs a n cp⟩] } a2 { w1 with drawn := w1.drawn + 1 } := ⟨h2, h3, h4.trans hc1.defers, hmem⟩
  refine dgets_op (i := 5) (r := some (.e (.c (.nsl 1 0 1 1)))) (σ1 := { tl := [(8, .e (.c (.int .i64 r.n))), (7, .e (.c (.p 0 1))), (6, .e (.c (.int .i64 r.n))), (5, .e (.c (.p 0 1))), (4, .e (.c (.rp ⟨b, 0, none⟩))), (0, .e (.c (.rp ⟨b, 0, none⟩))), (3, .e (.c (.p 0 0)))], bs := [⟨35, r.cs a n cp⟩, ⟨3, [.int .i64 r.n]⟩] }) (σ2 := { tl := [(9, .e (.c (.nsl 1 0 1 1))), (8, .e (.c (.int .i64 r.n))), (7, .e (.c (.p 0 1))), (6, .e (.c (.int .i64 r.n))), (5, .e (.c (.p 0 1))), (4, .e (.c (.rp ⟨b, 0, none⟩))), (0, .e (.c (.rp ⟨b, 0, none⟩))), (3, .e (.c (.p 0 0)))], bs := [⟨35, r.cs a n cp⟩, ⟨3, [.int .i64 r.n]⟩] }) tab_ok hc2 (by kernel_rfl) rfl (by kernel_rfl) (by kernel_rfl) (by kernel_rfl) (fun p hp => by cases hp) (fun a3 w3 hc3 => ⟨Sees.first (bs' := [⟨3, [.int .i64 r.n]⟩]) hc3.mem.sees, ?_⟩)
  have hn3 := (Over.env w _).rel hc3.mem
  have hints : IntsAt B w3 (some ⟨w.heap.size + 1, 0, none⟩) 1 1 [r.n] := by
    refine ⟨rfl, Nat.le_refl _, fun j s hj => ⟨_, rfl, ?_⟩⟩
    have hc := hc3.mem.cells 1 _ rfl
    have hb : (env0 B w).ρ 1 = w.heap.size + 1 := rfl
    rw [hb] at hc
    match j, hj with
    | 0, hj =>
      simp only [List.getElem?_cons_zero, Option.some.injEq] at hj
      subst hj
      exact ⟨by rw [addr_add]; simp [World.cell?, hc, C.real], .inr ⟨_, _, _, hc, by show (3 : Nat) ≠ 66; decide, by show (3 : Nat) ≠ 84; decide, by show (3 : Nat) ≠ 39; decide, hm.notx (Nat.le_add_right _ _)⟩⟩
    | j + 1, hj => simp at hj
  refine dgets_call (i := 6) (c := ⟨82, [.c (.nsl 1 0 1 1)], [], #[]⟩) hc3.tl (by kernel_rfl) (by kernel_rfl) (by kernel_rfl) (closes_calls w3 (hm.xs.keep (hn3.keep B)) [r.n] _ 1 1 hints) (fun e w4 ⟨h5, h6, h7⟩ => ⟨_, h5, ⟨fun i nb hi => ?_, fun ad v hv => sro_keep ((hn3.trans h6).keep B) hv⟩, ?_⟩)
  · have := (Sees.first (bs' := [⟨3, [.int .i64 r.n]⟩]) hc3.mem.sees).cells i nb hi
    rw [h6.block _ (lt_of_block this)]; exact this
  obtain ⟨hm4, he4⟩ := hm.fresh (hn3.trans h6)
  have htl4 := TRel.put hc3.tl 10 (by rw [hc3.size]; decide) (.e (.c (.fv 131 #[bp w3.heap.size])))
  refine dgets_call (σ := { tl := (10, .e (.c (.fv 131 #[bp w3.heap.size]))) :: _, bs := [] }) (i := 7) (c := ⟨79, [.c (.rp ⟨b, 0, none⟩), .c (.int .i64 r.n), .c (.int .i64 1), .c (.fv 131 #[bp w3.heap.size])], [], #[]⟩) htl4 (by kernel_rfl) (by kernel_rfl) (by kernel_rfl)
    (pours_calls hm4 r.n 1 (.closes [r.n]) 131 _ ⟨rfl, _, rfl, h7⟩) (fun e w5 ⟨h8, h9, h10⟩ => ⟨_, h8, ⟨fun i nb hi => ?_, fun ad v hv => sro_keep (((hn3.trans h6).keep B).trans (h10.keep hm4)) hv⟩, ?_⟩)
  · have hc' := (Sees.first (bs' := [⟨3, [.int .i64 r.n]⟩]) hc3.mem.sees).cells i nb hi
    have hc4 := hc'
    rw [← h6.block _ (lt_of_block hc')] at hc4
    have hty : nb.ty = 35 := by
      match i, hi with
      | 0, hi => cases hi; rfl
      | i + 1, hi => simp at hi
    exact (h10.keep hm4).cells hc4 (by rw [hty]; decide) (by rw [hty]; decide) (by rw [hty]; decide) (hm.notx (Nat.le_add_right _ _))
  refine dgets_done 0 (by kernel_rfl) ?_
  exact gets_end0 (by rw [Act.put_defers']; exact hc3.defers) Tryz.func81 rfl (by kernel_rfl) ⟨rfl, h9, he4.trans h10⟩

end Go.Proofs.YtoihipolfdhhnaaGreatDoor

namespace Go.Proofs
open Go.Shelf
def Tryz.laysM171_ren : Go.Shelf.Ren := ⟨fun | 171 => 71 | 243 => 124 | 246 => 161 | 283 => 183 | 284 => 184 | 285 => 185 | 286 => 186 | 129 => 203 | 317 => 202 | 318 => 204 | 319 => 205 | 320 => 206 | 337 => 216 | 338 => 217 | n => n, fun | 3 => 3 | 9 => 9 | 2 => 2 | 4 => 4 | 171 => 166 | 0 => 0 | 53 => 75 | 37 => 76 | 5 => 5 | 173 => 169 | 212 => 179 | 51 => 180 | 20 => 20 | 213 => 181 | 46 => 48 | 232 => 202 | 233 => 203 | n => n, fun | 17 => 1 | 18 => 6 | 19 => 7 | n => n⟩
theorem Tryz.laysM171 : Go.Proofs.LaysM.n171 Tryz.prog Tryz.laysM171_ren := {
  mixed := by kernel_rfl
  f129 := Tryz.func203.trans (congrArg some (by kernel_rfl))
  f171 := Tryz.func71.trans (congrArg some (by kernel_rfl))
  f243 := Tryz.func124.trans (congrArg some (by kernel_rfl))
  f246 := Tryz.func161.trans (congrArg some (by kernel_rfl))
  f283 := Tryz.func183.trans (congrArg some (by kernel_rfl))
  f284 := Tryz.func184.trans (congrArg some (by kernel_rfl))
  f285 := Tryz.func185.trans (congrArg some (by kernel_rfl))
  f286 := Tryz.func186.trans (congrArg some (by kernel_rfl))
  f317 := Tryz.func202.trans (congrArg some (by kernel_rfl))
  f318 := Tryz.func204.trans (congrArg some (by kernel_rfl))
  f319 := Tryz.func205.trans (congrArg some (by kernel_rfl))
  f320 := Tryz.func206.trans (congrArg some (by kernel_rfl))
  f337 := Tryz.func216.trans (congrArg some (by kernel_rfl))
  f338 := Tryz.func217.trans (congrArg some (by kernel_rfl))
  t0 := Tryz.underlying0
  a0 := Tryz.isAgg0
  z0 := Tryz.sizeOf0
  v0 := Tryz.zeroValue0
  t2 := Tryz.underlying2
  a2 := Tryz.isAgg2
  z2 := Tryz.sizeOf2
  v2 := Tryz.zeroValue2
  t3 := Tryz.underlying3
  a3 := Tryz.isAgg3
  z3 := Tryz.sizeOf3
  v3 := Tryz.zeroValue3
  t4 := Tryz.underlying4
  a4 := Tryz.isAgg4
  z4 := Tryz.sizeOf4
  v4 := Tryz.zeroValue4
  t5 := Tryz.underlying5
  a5 := Tryz.isAgg5
  z5 := Tryz.sizeOf5
  v5 := Tryz.zeroValue5
  t9 := Tryz.underlying9
  a9 := Tryz.isAgg9
  z9 := Tryz.sizeOf9
  v9 := Tryz.zeroValue9
  t20 := Tryz.underlying20
  a20 := Tryz.isAgg20
  z20 := Tryz.sizeOf20
  v20 := Tryz.zeroValue20
  t37 := Tryz.underlying76
  a37 := Tryz.isAgg76
  z37 := Tryz.sizeOf76
  v37 := Tryz.zeroValue76
  t46 := Tryz.underlying48
  a46 := Tryz.isAgg48
  z46 := Tryz.sizeOf48
  v46 := Tryz.zeroValue48
  t51 := Tryz.underlying180
  a51 := Tryz.isAgg180
  z51 := Tryz.sizeOf180
  v51 := Tryz.zeroValue180
  t53 := Tryz.underlying75
  a53 := Tryz.isAgg75
  z53 := Tryz.sizeOf75
  v53 := Tryz.zeroValue75
  t171 := Tryz.underlying166
  a171 := Tryz.isAgg166
  z171 := Tryz.sizeOf166
  v171 := Tryz.zeroValue166
  t173 := Tryz.underlying169
  a173 := Tryz.isAgg169
  z173 := Tryz.sizeOf169
  v173 := Tryz.zeroValue169
  t212 := Tryz.underlying179
  a212 := Tryz.isAgg179
  z212 := Tryz.sizeOf179
  v212 := Tryz.zeroValue179
  t213 := Tryz.underlying181
  a213 := Tryz.isAgg181
  z213 := Tryz.sizeOf181
  t232 := Tryz.underlying202
  a232 := Tryz.isAgg202
  z232 := Tryz.sizeOf202
  v232 := Tryz.zeroValue202
  t233 := Tryz.underlying203
  a233 := Tryz.isAgg203
  z233 := Tryz.sizeOf203
  v233 := Tryz.zeroValue203
  g17 := by kernel_rfl
  g18 := by kernel_rfl
  g19 := by kernel_rfl
  i0 := by kernel_rfl
  i2 := by kernel_rfl
  i3 := by kernel_rfl
  i4 := by kernel_rfl
  i5 := by kernel_rfl
  i9 := by kernel_rfl
  i20 := by kernel_rfl
  i37 := by kernel_rfl
  i46 := by kernel_rfl
  i51 := by kernel_rfl
  i53 := by kernel_rfl
  i171 := by kernel_rfl
  i173 := by kernel_rfl
  i212 := by kernel_rfl
  i232 := by kernel_rfl
  i233 := by kernel_rfl
  m17 := by kernel_rfl
  m18 := by kernel_rfl
  m19 := by kernel_rfl }
open Go.RowKit Go.Sort Go.Lib in
/-- strconv.Itoa: "Itoa is equivalent to FormatInt(int64(i), 10).": i's DECIMAL NUMERAL ('Lib.itoa': a '-' where i is negative, then the digits), FOR EVERY int. The world behind the call: the world before it, new blocks behind the heap (the library's 'var a [24]byte'), draws. (LAID: no walk: one application.) -/
theorem Tryz.strconv_Itoa (n : Int) (h0 : -9223372036854775808 ≤ n) (h1 : n ≤ 9223372036854775807) (w : World) (htab : Lib.TabIs Tryz.prog w "internal/strconv.uint64pow10" .u64 Lib.pow10Tab) :
    Calls Tryz.prog 71 #[.int .i64 n] w fun e w' => e = .returned (.string ⟨(Lib.itoa n).toArray⟩) ∧ ∃ k os, w' = grow (w.drewN k) os := Any.strconv_Itoa Tryz.laysM171 n h0 h1 w htab
end Go.Proofs

namespace Go.Proofs.YtoihipolfdhhnaaGreatDoor
set_option linter.unusedSimpArgs false

theorem Sees.new {ε : Env} {bs : List NB} {w w' : World} (h : Sees ε bs w) (hn : New w w') : Sees ε bs w' :=
  ⟨fun i b hi => by rw [hn.block _ (lt_of_block (h.cells i b hi))]; exact h.cells i b hi, fun a v hv => by
    have h1 := h.ro a v hv
    rw [World.cell?_of_block (hn.block _ (World.block_lt_of_cell? w a h1))]; exact h1⟩

/-- A call in a drawn region that makes new blocks at most. -/
theorem dgets_pure {P : Program} {ε : Env} {nt : Nat} {f : FuncId} {ops : Array Oper} {k : List Item} {σ : St} {a : Act} {w : World} {R : Ending → World → Prop} {bs : List NB} {c : CallX} {fuel : Nat} {listed : Array Bool} {i : Nat} {Q : World → Prop} (d : Nat) (v : SV)
    (htl : TRel ε.ρ σ.tl a.tmps) (hsz : a.tmps.size = nt) (hS : Sees ε bs w) (hr : Region.ready .any ops listed = [i]) (hx : callX [.inRegion ops [i]] σ = some c) (he : enters P c.fn = true) (hd : dstX [.inRegion ops [i]] = some d) (hdn : Nat.blt d nt = true)
    (hcall : Calls P c.fn (c.real ε.ρ) w (Gives (v.real ε.ρ) Q w))
    (h : ∀ a' w', TRel ε.ρ ((d, v) :: σ.tl) a'.tmps → a'.tmps.size = nt → a'.defers = a.defers → New w w' → Sees ε bs w' → wpAnyH P .any ops (Behind P f k R) (Sees ε bs) fuel (listed.setIfInBounds i true) a' w') :
    wpAnyH P .any ops (Behind P f k R) (Sees ε bs) (fuel + 1) listed a w := by
  refine dgets_call htl hr hx he hcall (fun e w' ⟨e1, e2, _⟩ => ⟨_, e1, hS.new e2, ?_⟩)
  rw [hd]
  exact h _ w' (htl.lay hsz d hdn v rfl) (by rw [Act.put_size]; exact hsz) (by rw [Act.put_defers']) e2 (hS.new e2)

/-- strconv.Itoa. -/
theorem itoa_calls {B : Bd} {w : World} (hg : GlobOk B w) (n : Int) (h0 : -9223372036854775808 ≤ n) (h1 : n ≤ 9223372036854775807) : Calls Tryz.prog 71 #[.int .i64 n] w (Gives (.string (dec n)) (fun _ => True) w) := by
  refine Calls.mono (Tryz.strconv_Itoa n h0 h1 w hg.pow10) (fun e w' ⟨e1, k, os, e2⟩ => ⟨e1, ?_, trivial⟩)
  subst e2
  refine ⟨rfl, rfl, rfl, by simp [Sort.grow, World.drewN], fun k hk => ?_⟩
  simp only [Sort.grow, World.drewN]
  exact Array.getElem?_append_left hk

theorem dec_size (n : Int) (h0 : -9223372036854775808 ≤ n) (h1 : n ≤ 9223372036854775807) : (dec n).size ≤ 21 := by
  have := Lib.itoa_length_le n h0 h1
  have e : (dec n).size = (Lib.itoa n).length := by unfold dec; rfl
  rw [e]; exact this

/-- What id says, its parts told. -/
def idT (c : CredD) (b1 b2 : Bool) : ByteArray :=
  let s := (⟨#[117, 105, 100, 61]⟩ : ByteArray) ++ dec c.real_ ++ ⟨#[32, 103, 105, 100, 61]⟩ ++ dec c.group
  let s := if b1 then s ++ (⟨#[32, 101, 117, 105, 100, 61]⟩ ++ dec c.eff) else s
  let s := if b2 then s ++ (⟨#[32, 101, 103, 105, 100, 61]⟩ ++ dec c.effGroup) else s
  s ++ ⟨#[10]⟩

theorem idText_eq (c : CredD) : idText c = idT c (c.eff != c.real_) (c.effGroup != c.group) := by
  unfold idText idT
  simp only [bne_iff_ne]

theorem idT_ne (c : CredD) (b1 b2 : Bool) : ((idT c b1 b2).toList == []) = false := by
  unfold idT
  rw [ByteArray.toList_eq]
  simp

theorem id1_calls {B : Bd} {w : World} {b : Nat} {m : M} (hm : MOk B w b m) (r : Res) (a : Option Addr) (n cp : Nat) (hr : CredIn r.cred) :
    Calls Tryz.prog 70 #[bp b, resV r a n cp] w (Does B b w (m.say 1 (idText r.cred) .none)) := by
  rw [idText_eq]
  have hg : GlobOk B w := by obtain ⟨_, _, _, _, _, hM⟩ := hm; exact hM.glob
  have z1 : (⟨#[117, 105, 100, 61]⟩ : ByteArray).size = 4 := rfl
  have z2 : (⟨#[32, 103, 105, 100, 61]⟩ : ByteArray).size = 5 := rfl
  have z3 : (⟨#[32, 101, 117, 105, 100, 61]⟩ : ByteArray).size = 6 := rfl
  have z4 : (⟨#[32, 101, 103, 105, 100, 61]⟩ : ByteArray).size = 6 := rfl
  have z5 : (⟨#[10]⟩ : ByteArray).size = 1 := rfl
  have y1 := dec_size r.cred.real_ hr.r0 hr.r1
  have y2 := dec_size r.cred.group hr.g0 hr.g1
  have y3 := dec_size r.cred.eff hr.e0 hr.e1
  have y4 := dec_size r.cred.effGroup hr.f0 hr.f1
  have p1 : (((⟨#[117, 105, 100, 61]⟩ : ByteArray).size + (dec r.cred.real_).size : Nat) : Int) ≤ 9223372036854775807 := by
    simp only [ByteArray.size_append, z1, z2, z3, z4, z5]
    omega
  have p2 : ((((⟨#[117, 105, 100, 61]⟩ : ByteArray) ++ dec r.cred.real_).size + (⟨#[32, 103, 105, 100, 61]⟩ : ByteArray).size : Nat) : Int) ≤ 9223372036854775807 := by
    simp only [ByteArray.size_append, z1, z2, z3, z4, z5]
    omega
  have p3 : ((((⟨#[117, 105, 100, 61]⟩ : ByteArray) ++ dec r.cred.real_ ++ (⟨#[32, 103, 105, 100, 61]⟩ : ByteArray)).size + (dec r.cred.group).size : Nat) : Int) ≤ 9223372036854775807 := by
    simp only [ByteArray.size_append, z1, z2, z3, z4, z5]
    omega
  refine enter (B := B) tab_ok [.e (.c (.rp ⟨b, 0, none⟩)), rsX r a n cp] [] [] 30 Tryz.func70 rfl rfl rfl (obs := []) (by kernel_rfl) trivial (fun a1 w1 hc1 => ?_)
  replace hc1 := hc1.pickx [(0, .e (.c (.rp ⟨b, 0, none⟩))), (4, .e (.c (.p 1 0)))] [⟨35, r.cs a n cp⟩, ⟨33, r.cred.cs⟩] [] (by kernel_rfl) (by kernel_rfl)
  have hmem : Rel (env0 B w) [⟨35, r.cs a n cp⟩, ⟨33, r.cred.cs⟩] { w1 with drawn := w1.drawn + 1 } := hc1.mem.drew _
  have hN1 := (Over.env w _).rel hmem
  refine gets_draw (S := Sees (env0 B w) [⟨35, r.cs a n cp⟩, ⟨33, r.cred.cs⟩]) (by kernel_rfl) ?_
  refine dgets_take (fuel := 6) (l' := #[true, true, false, false, false, true, true, false, false, false]) tab_ok (by kernel_rfl) hmem.sees [0, 1, 5, 6] _ { tl := [(0, .e (.c (.rp ⟨b, 0, none⟩))), (4, .e (.c (.p 1 0)))], bs := [⟨35, r.cs a n cp⟩, ⟨33, r.cred.cs⟩] } { tl := [(14, .e (.c (.int .i64 r.cred.group))), (13, .e (.c (.p 1 3))), (9, .e (.c (.int .i64 r.cred.real_))), (8, .e (.c (.p 1 0))), (0, .e (.c (.rp ⟨b, 0, none⟩))), (4, .e (.c (.p 1 0)))], bs := [⟨35, r.cs a n cp⟩, ⟨33, r.cred.cs⟩] } _ (by kernel_rfl) rfl hc1.tl hc1.size (fun p hp => by cases hp) (fun a2 h2 h3 h4 => ?_)
  refine dgets_pure (nt := Tryz.f70.ntmps) (σ := { tl := [(14, .e (.c (.int .i64 r.cred.group))), (13, .e (.c (.p 1 3))), (9, .e (.c (.int .i64 r.cred.real_))), (8, .e (.c (.p 1 0))), (0, .e (.c (.rp ⟨b, 0, none⟩))), (4, .e (.c (.p 1 0)))], bs := [] }) (i := 2) (c := ⟨71, [.c (.int .i64 r.cred.real_)], [], #[]⟩) 10 (.e (.c (.str (dec r.cred.real_)))) h2 h3 hmem.sees (by kernel_rfl) (by kernel_rfl) (by kernel_rfl) (by kernel_rfl) (by kernel_rfl) (itoa_calls (hg.keep (hN1.keep B)) _ hr.r0 hr.r1) (fun a3 w3 h5 h6 h7 hn3 hs3 => ?_)
  refine dgets_take (fuel := 3) (l' := #[true, true, true, true, true, true, true, false, false, false]) tab_ok (by kernel_rfl) hs3 [3, 4] _ { tl := [(10, .e (.c (.str (dec r.cred.real_)))), (14, .e (.c (.int .i64 r.cred.group))), (13, .e (.c (.p 1 3))), (9, .e (.c (.int .i64 r.cred.real_))), (8, .e (.c (.p 1 0))), (0, .e (.c (.rp ⟨b, 0, none⟩))), (4, .e (.c (.p 1 0)))], bs := [⟨35, r.cs a n cp⟩, ⟨33, r.cred.cs⟩] } { tl := [(12, .e (.c (.str ((⟨#[117, 105, 100, 61]⟩ : ByteArray) ++ dec r.cred.real_ ++ (⟨#[32, 103, 105, 100, 61]⟩ : ByteArray))))), (11, .e (.c (.str ((⟨#[117, 105, 100, 61]⟩ : ByteArray) ++ dec r.cred.real_)))), (10, .e (.c (.str (dec r.cred.real_)))), (14, .e (.c (.int .i64 r.cred.group))), (13, .e (.c (.p 1 3))), (9, .e (.c (.int .i64 r.cred.real_))), (8, .e (.c (.p 1 0))), (0, .e (.c (.rp ⟨b, 0, none⟩))), (4, .e (.c (.p 1 0)))], bs := [⟨35, r.cs a n cp⟩, ⟨33, r.cred.cs⟩], ob := [fun _ => (((⟨#[117, 105, 100, 61]⟩ : ByteArray).size + (dec r.cred.real_).size : Nat) : Int) ≤ 9223372036854775807, fun _ => ((((⟨#[117, 105, 100, 61]⟩ : ByteArray) ++ dec r.cred.real_).size + (⟨#[32, 103, 105, 100, 61]⟩ : ByteArray).size : Nat) : Int) ≤ 9223372036854775807] } _ (by kernel_rfl) rfl h5 h6 (holds_of rfl ⟨p1, p2, trivial⟩) (fun a4 h8 h9 h10 => ?_)
  refine dgets_pure (nt := Tryz.f70.ntmps) (σ := { tl := [(12, .e (.c (.str ((⟨#[117, 105, 100, 61]⟩ : ByteArray) ++ dec r.cred.real_ ++ (⟨#[32, 103, 105, 100, 61]⟩ : ByteArray))))), (11, .e (.c (.str ((⟨#[117, 105, 100, 61]⟩ : ByteArray) ++ dec r.cred.real_)))), (10, .e (.c (.str (dec r.cred.real_)))), (14, .e (.c (.int .i64 r.cred.group))), (13, .e (.c (.p 1 3))), (9, .e (.c (.int .i64 r.cred.real_))), (8, .e (.c (.p 1 0))), (0, .e (.c (.rp ⟨b, 0, none⟩))), (4, .e (.c (.p 1 0)))], bs := [] }) (i := 7) (c := ⟨71, [.c (.int .i64 r.cred.group)], [], #[]⟩) 15 (.e (.c (.str (dec r.cred.group)))) h8 h9 hs3 (by kernel_rfl) (by kernel_rfl) (by kernel_rfl) (by kernel_rfl) (by kernel_rfl) (itoa_calls (hg.keep ((hN1.trans hn3).keep B)) _ hr.g0 hr.g1) (fun a5 w5 h11 h12 h13 hn5 hs5 => ?_)
  refine dgets_take (fuel := 0) (l' := #[true, true, true, true, true, true, true, true, true, true]) tab_ok (by kernel_rfl) hs5 [8, 9] _ { tl := [(15, .e (.c (.str (dec r.cred.group)))), (12, .e (.c (.str ((⟨#[117, 105, 100, 61]⟩ : ByteArray) ++ dec r.cred.real_ ++ (⟨#[32, 103, 105, 100, 61]⟩ : ByteArray))))), (11, .e (.c (.str ((⟨#[117, 105, 100, 61]⟩ : ByteArray) ++ dec r.cred.real_)))), (10, .e (.c (.str (dec r.cred.real_)))), (14, .e (.c (.int .i64 r.cred.group))), (13, .e (.c (.p 1 3))), (9, .e (.c (.int .i64 r.cred.real_))), (8, .e (.c (.p 1 0))), (0, .e (.c (.rp ⟨b, 0, none⟩))), (4, .e (.c (.p 1 0)))], bs := [⟨35, r.cs a n cp⟩, ⟨33, r.cred.cs⟩] } { tl := [(5, .e (.c (.str ((⟨#[117, 105, 100, 61]⟩ : ByteArray) ++ dec r.cred.real_ ++ (⟨#[32, 103, 105, 100, 61]⟩ : ByteArray) ++ dec r.cred.group)))), (16, .e (.c (.str ((⟨#[117, 105, 100, 61]⟩ : ByteArray) ++ dec r.cred.real_ ++ (⟨#[32, 103, 105, 100, 61]⟩ : ByteArray) ++ dec r.cred.group)))), (15, .e (.c (.str (dec r.cred.group)))), (12, .e (.c (.str ((⟨#[117, 105, 100, 61]⟩ : ByteArray) ++ dec r.cred.real_ ++ (⟨#[32, 103, 105, 100, 61]⟩ : ByteArray))))), (11, .e (.c (.str ((⟨#[117, 105, 100, 61]⟩ : ByteArray) ++ dec r.cred.real_)))), (10, .e (.c (.str (dec r.cred.real_)))), (14, .e (.c (.int .i64 r.cred.group))), (13, .e (.c (.p 1 3))), (9, .e (.c (.int .i64 r.cred.real_))), (8, .e (.c (.p 1 0))), (0, .e (.c (.rp ⟨b, 0, none⟩))), (4, .e (.c (.p 1 0)))], bs := [⟨35, r.cs a n cp⟩, ⟨33, r.cred.cs⟩], ob := [fun _ => ((((⟨#[117, 105, 100, 61]⟩ : ByteArray) ++ dec r.cred.real_ ++ (⟨#[32, 103, 105, 100, 61]⟩ : ByteArray)).size + (dec r.cred.group).size : Nat) : Int) ≤ 9223372036854775807] } _ (by kernel_rfl) rfl h11 h12 (holds_of rfl ⟨p3, trivial⟩) (fun a6 h14 h15 h16 => ?_)
  refine dgets_done 0 (by kernel_rfl) ?_
  have hN5 := (hN1.trans hn3).trans hn5
  obtain ⟨hm5, he5⟩ := hm.fresh hN5
  have hcr : w5.heap[w.heap.size + 1]? = some (.cells (plainR r.cred.cs) 33 (0, 0)) := by
    have := hs5.cells 1 _ rfl
    rw [map_plain _ rfl] at this
    exact this
  have hc7 : ∀ orc, CRel (env w5 [w.heap.size + 1] noRo) Tryz.f70.ntmps { tl := [(5, .e (.c (.str ((⟨#[117, 105, 100, 61]⟩ : ByteArray) ++ dec r.cred.real_ ++ (⟨#[32, 103, 105, 100, 61]⟩ : ByteArray) ++ dec r.cred.group)))), (4, .e (.c (.p 0 0))), (0, .e (.c (.rp ⟨b, 0, none⟩)))], bs := [⟨33, r.cred.cs⟩], orc := orc } a6 w5 := by
    intro orc
    refine ⟨fun d v hd => ?_, h15, h16.trans (h13.trans (h10.trans (h7.trans (h4.trans hc1.defers)))), rel1 hcr rfl⟩
    simp only [lk] at hd
    split at hd
    · rename_i e; cases hd; subst e; exact h14 5 _ (by rfl)
    · split at hd
      · rename_i e; cases hd; subst e; exact h14 4 (.e (.c (.p 1 0))) (by rfl)
      · split at hd
        · rename_i e; cases hd; subst e; exact h14 0 _ (by rfl)
        · cases hd
  clear hc1 h2 h5 h8 h11 h14
  have hov7 : ∀ {w' : World} {bs : List NB}, bs[0]? = some ⟨33, r.cred.cs⟩ → Rel (env w5 [w.heap.size + 1] noRo) bs w' → New w5 w' := by
    intro w' bs hb hr'
    refine ⟨hr'.os, hr'.tape, hr'.output, by rw [hr'.size]; exact Nat.le_add_right _ _, fun k hk => ?_⟩
    by_cases e : k = w.heap.size + 1
    · subst e
      have := hr'.cells 0 _ hb
      rw [map_plain _ rfl] at this
      rw [hcr]; exact this
    · exact hr'.keep k hk (fun i hi e' => by
        have hi1 : i < 1 := hi
        have : i = 0 := by omega
        subst this
        exact e e'.symm)
  cases hb1 : (r.cred.eff != r.cred.real_) <;> cases hb2 : (r.cred.effGroup != r.cred.group)
  · have qe : ((((⟨#[117, 105, 100, 61]⟩ : ByteArray) ++ dec r.cred.real_ ++ (⟨#[32, 103, 105, 100, 61]⟩ : ByteArray) ++ dec r.cred.group).size + (⟨#[10]⟩ : ByteArray).size : Nat) : Int) ≤ 9223372036854775807 := by
      simp only [ByteArray.size_append, z1, z2, z3, z4, z5]
      omega
    refine gets_run tab_ok 80 (hc7 [false, false]) (holds_of (obs := [fun _ => (r.cred.eff != r.cred.real_) = false, fun _ => (r.cred.effGroup != r.cred.group) = false, fun _ => ((((⟨#[117, 105, 100, 61]⟩ : ByteArray) ++ dec r.cred.real_ ++ (⟨#[32, 103, 105, 100, 61]⟩ : ByteArray) ++ dec r.cred.group).size + (⟨#[10]⟩ : ByteArray).size : Nat) : Int) ≤ 9223372036854775807]) (by kernel_rfl) ⟨hb1, hb2, qe, trivial⟩) (fun a12 w12 hc12 => ?_)
    have hr12 := hc12.mem.bs (bs' := [⟨33, r.cred.cs⟩]) (by kernel_rfl)
    have hn12 := hov7 rfl hr12
    have hN12 := hN5.trans hn12
    obtain ⟨hm12, he12⟩ := hm.fresh hN12
    refine gets_tail (fun w' => MOk B w' b (m.say 1 (idT r.cred false false) .none) ∧ Evo w12 b w') (c := ⟨72, [.c (.rp ⟨b, 0, none⟩), .c (.int .i64 1), .c (.str (idT r.cred false false)), .c (.f 73 [])], [], #[]⟩) hc12 (by kernel_rfl) (by kernel_rfl) ?_ Tryz.func70 rfl (by kernel_rfl) (fun w' h => ⟨rfl, h.1, he12.trans h.2⟩)
    exact say_calls hm12 1 _ (idT_ne _ _ _) .none 73 #[] ⟨rfl, rfl⟩
  · refine gets_run tab_ok 80 (hc7 [false, true]) (holds_of (obs := [fun _ => (r.cred.eff != r.cred.real_) = false, fun _ => (r.cred.effGroup != r.cred.group) = true]) (by kernel_rfl) ⟨hb1, hb2, trivial⟩) (fun a10 w10 hc10 => ?_)
    replace hc10 := hc10.pickx [(0, .e (.c (.rp ⟨b, 0, none⟩))), (4, .e (.c (.p 0 0))), (33, .e (.c (.str ((⟨#[117, 105, 100, 61]⟩ : ByteArray) ++ dec r.cred.real_ ++ (⟨#[32, 103, 105, 100, 61]⟩ : ByteArray) ++ dec r.cred.group)))), (35, .e (.c (.int .i64 r.cred.effGroup)))] [⟨33, r.cred.cs⟩] [] (by kernel_rfl) (by kernel_rfl)
    have hn10 := hov7 rfl hc10.mem
    refine gets_pure (Q := fun _ => True) (c := ⟨71, [.c (.int .i64 r.cred.effGroup)], [], #[]⟩) 36 (.e (.c (.str (dec r.cred.effGroup)))) [] [] hc10 (by kernel_rfl) (by kernel_rfl) (by kernel_rfl) (by kernel_rfl) (itoa_calls (hg.keep ((hN5.trans hn10).keep B)) _ hr.f0 hr.f1) (by kernel_rfl) (by kernel_rfl) (fun a11 w11 hn11 _ hc11 => ?_)
    have qc : (((⟨#[32, 101, 103, 105, 100, 61]⟩ : ByteArray).size + (dec r.cred.effGroup).size : Nat) : Int) ≤ 9223372036854775807 := by
      simp only [ByteArray.size_append, z1, z2, z3, z4, z5]
      omega
    have qd : ((((⟨#[117, 105, 100, 61]⟩ : ByteArray) ++ dec r.cred.real_ ++ (⟨#[32, 103, 105, 100, 61]⟩ : ByteArray) ++ dec r.cred.group).size + ((⟨#[32, 101, 103, 105, 100, 61]⟩ : ByteArray) ++ dec r.cred.effGroup).size : Nat) : Int) ≤ 9223372036854775807 := by
      simp only [ByteArray.size_append, z1, z2, z3, z4, z5]
      omega
    have qe : (((((⟨#[117, 105, 100, 61]⟩ : ByteArray) ++ dec r.cred.real_ ++ (⟨#[32, 103, 105, 100, 61]⟩ : ByteArray) ++ dec r.cred.group) ++ ((⟨#[32, 101, 103, 105, 100, 61]⟩ : ByteArray) ++ dec r.cred.effGroup)).size + (⟨#[10]⟩ : ByteArray).size : Nat) : Int) ≤ 9223372036854775807 := by
      simp only [ByteArray.size_append, z1, z2, z3, z4, z5]
      omega
    refine gets_run tab_ok 80 hc11 (holds_of (obs := [fun _ => (((⟨#[32, 101, 103, 105, 100, 61]⟩ : ByteArray).size + (dec r.cred.effGroup).size : Nat) : Int) ≤ 9223372036854775807, fun _ => ((((⟨#[117, 105, 100, 61]⟩ : ByteArray) ++ dec r.cred.real_ ++ (⟨#[32, 103, 105, 100, 61]⟩ : ByteArray) ++ dec r.cred.group).size + ((⟨#[32, 101, 103, 105, 100, 61]⟩ : ByteArray) ++ dec r.cred.effGroup).size : Nat) : Int) ≤ 9223372036854775807, fun _ => (((((⟨#[117, 105, 100, 61]⟩ : ByteArray) ++ dec r.cred.real_ ++ (⟨#[32, 103, 105, 100, 61]⟩ : ByteArray) ++ dec r.cred.group) ++ ((⟨#[32, 101, 103, 105, 100, 61]⟩ : ByteArray) ++ dec r.cred.effGroup)).size + (⟨#[10]⟩ : ByteArray).size : Nat) : Int) ≤ 9223372036854775807]) (by kernel_rfl) ⟨qc, qd, qe, trivial⟩) (fun a12 w12 hc12 => ?_)
    have hr12 := hc12.mem.bs (bs' := [⟨33, r.cred.cs⟩]) (by kernel_rfl)
    have hn12 := (hn10.trans hn11).trans (hc11.mem.same hr12)
    have hN12 := hN5.trans hn12
    obtain ⟨hm12, he12⟩ := hm.fresh hN12
    refine gets_tail (fun w' => MOk B w' b (m.say 1 (idT r.cred false true) .none) ∧ Evo w12 b w') (c := ⟨72, [.c (.rp ⟨b, 0, none⟩), .c (.int .i64 1), .c (.str (idT r.cred false true)), .c (.f 73 [])], [], #[]⟩) hc12 (by kernel_rfl) (by kernel_rfl) ?_ Tryz.func70 rfl (by kernel_rfl) (fun w' h => ⟨rfl, h.1, he12.trans h.2⟩)
    exact say_calls hm12 1 _ (idT_ne _ _ _) .none 73 #[] ⟨rfl, rfl⟩
  · refine gets_run tab_ok 60 (hc7 [true]) (holds_of (obs := [fun _ => (r.cred.eff != r.cred.real_) = true]) (by kernel_rfl) ⟨hb1, trivial⟩) (fun a8 w8 hc8 => ?_)
    replace hc8 := hc8.pickx [(0, .e (.c (.rp ⟨b, 0, none⟩))), (4, .e (.c (.p 0 0))), (22, .e (.c (.str ((⟨#[117, 105, 100, 61]⟩ : ByteArray) ++ dec r.cred.real_ ++ (⟨#[32, 103, 105, 100, 61]⟩ : ByteArray) ++ dec r.cred.group)))), (24, .e (.c (.int .i64 r.cred.eff)))] [⟨33, r.cred.cs⟩] [] (by kernel_rfl) (by kernel_rfl)
    have hn8 := hov7 rfl hc8.mem
    refine gets_pure (Q := fun _ => True) (c := ⟨71, [.c (.int .i64 r.cred.eff)], [], #[]⟩) 25 (.e (.c (.str (dec r.cred.eff)))) [false] [] hc8 (by kernel_rfl) (by kernel_rfl) (by kernel_rfl) (by kernel_rfl) (itoa_calls (hg.keep ((hN5.trans hn8).keep B)) _ hr.e0 hr.e1) (by kernel_rfl) (by kernel_rfl) (fun a9 w9 hn9 _ hc9 => ?_)
    have hc9x := hc9
    have qa : (((⟨#[32, 101, 117, 105, 100, 61]⟩ : ByteArray).size + (dec r.cred.eff).size : Nat) : Int) ≤ 9223372036854775807 := by
      simp only [ByteArray.size_append, z1, z2, z3, z4, z5]
      omega
    have qb : ((((⟨#[117, 105, 100, 61]⟩ : ByteArray) ++ dec r.cred.real_ ++ (⟨#[32, 103, 105, 100, 61]⟩ : ByteArray) ++ dec r.cred.group).size + ((⟨#[32, 101, 117, 105, 100, 61]⟩ : ByteArray) ++ dec r.cred.eff).size : Nat) : Int) ≤ 9223372036854775807 := by
      simp only [ByteArray.size_append, z1, z2, z3, z4, z5]
      omega
    have qe : (((((⟨#[117, 105, 100, 61]⟩ : ByteArray) ++ dec r.cred.real_ ++ (⟨#[32, 103, 105, 100, 61]⟩ : ByteArray) ++ dec r.cred.group) ++ ((⟨#[32, 101, 117, 105, 100, 61]⟩ : ByteArray) ++ dec r.cred.eff)).size + (⟨#[10]⟩ : ByteArray).size : Nat) : Int) ≤ 9223372036854775807 := by
      simp only [ByteArray.size_append, z1, z2, z3, z4, z5]
      omega
    refine gets_run tab_ok 80 hc9 (holds_of (obs := [fun _ => (((⟨#[32, 101, 117, 105, 100, 61]⟩ : ByteArray).size + (dec r.cred.eff).size : Nat) : Int) ≤ 9223372036854775807, fun _ => ((((⟨#[117, 105, 100, 61]⟩ : ByteArray) ++ dec r.cred.real_ ++ (⟨#[32, 103, 105, 100, 61]⟩ : ByteArray) ++ dec r.cred.group).size + ((⟨#[32, 101, 117, 105, 100, 61]⟩ : ByteArray) ++ dec r.cred.eff).size : Nat) : Int) ≤ 9223372036854775807, fun _ => (r.cred.effGroup != r.cred.group) = false, fun _ => (((((⟨#[117, 105, 100, 61]⟩ : ByteArray) ++ dec r.cred.real_ ++ (⟨#[32, 103, 105, 100, 61]⟩ : ByteArray) ++ dec r.cred.group) ++ ((⟨#[32, 101, 117, 105, 100, 61]⟩ : ByteArray) ++ dec r.cred.eff)).size + (⟨#[10]⟩ : ByteArray).size : Nat) : Int) ≤ 9223372036854775807]) (by kernel_rfl) ⟨qa, qb, hb2, qe, trivial⟩) (fun a12 w12 hc12 => ?_)
    have hr12 := hc12.mem.bs (bs' := [⟨33, r.cred.cs⟩]) (by kernel_rfl)
    have hn12 := (hn8.trans hn9).trans (hc9x.mem.same hr12)
    have hN12 := hN5.trans hn12
    obtain ⟨hm12, he12⟩ := hm.fresh hN12
    refine gets_tail (fun w' => MOk B w' b (m.say 1 (idT r.cred true false) .none) ∧ Evo w12 b w') (c := ⟨72, [.c (.rp ⟨b, 0, none⟩), .c (.int .i64 1), .c (.str (idT r.cred true false)), .c (.f 73 [])], [], #[]⟩) hc12 (by kernel_rfl) (by kernel_rfl) ?_ Tryz.func70 rfl (by kernel_rfl) (fun w' h => ⟨rfl, h.1, he12.trans h.2⟩)
    exact say_calls hm12 1 _ (idT_ne _ _ _) .none 73 #[] ⟨rfl, rfl⟩
  · refine gets_run tab_ok 60 (hc7 [true]) (holds_of (obs := [fun _ => (r.cred.eff != r.cred.real_) = true]) (by kernel_rfl) ⟨hb1, trivial⟩) (fun a8 w8 hc8 => ?_)
    replace hc8 := hc8.pickx [(0, .e (.c (.rp ⟨b, 0, none⟩))), (4, .e (.c (.p 0 0))), (22, .e (.c (.str ((⟨#[117, 105, 100, 61]⟩ : ByteArray) ++ dec r.cred.real_ ++ (⟨#[32, 103, 105, 100, 61]⟩ : ByteArray) ++ dec r.cred.group)))), (24, .e (.c (.int .i64 r.cred.eff)))] [⟨33, r.cred.cs⟩] [] (by kernel_rfl) (by kernel_rfl)
    have hn8 := hov7 rfl hc8.mem
    refine gets_pure (Q := fun _ => True) (c := ⟨71, [.c (.int .i64 r.cred.eff)], [], #[]⟩) 25 (.e (.c (.str (dec r.cred.eff)))) [true] [] hc8 (by kernel_rfl) (by kernel_rfl) (by kernel_rfl) (by kernel_rfl) (itoa_calls (hg.keep ((hN5.trans hn8).keep B)) _ hr.e0 hr.e1) (by kernel_rfl) (by kernel_rfl) (fun a9 w9 hn9 _ hc9 => ?_)
    have hc9x := hc9
    have qa : (((⟨#[32, 101, 117, 105, 100, 61]⟩ : ByteArray).size + (dec r.cred.eff).size : Nat) : Int) ≤ 9223372036854775807 := by
      simp only [ByteArray.size_append, z1, z2, z3, z4, z5]
      omega
    have qb : ((((⟨#[117, 105, 100, 61]⟩ : ByteArray) ++ dec r.cred.real_ ++ (⟨#[32, 103, 105, 100, 61]⟩ : ByteArray) ++ dec r.cred.group).size + ((⟨#[32, 101, 117, 105, 100, 61]⟩ : ByteArray) ++ dec r.cred.eff).size : Nat) : Int) ≤ 9223372036854775807 := by
      simp only [ByteArray.size_append, z1, z2, z3, z4, z5]
      omega
    refine gets_run tab_ok 80 hc9 (holds_of (obs := [fun _ => (((⟨#[32, 101, 117, 105, 100, 61]⟩ : ByteArray).size + (dec r.cred.eff).size : Nat) : Int) ≤ 9223372036854775807, fun _ => ((((⟨#[117, 105, 100, 61]⟩ : ByteArray) ++ dec r.cred.real_ ++ (⟨#[32, 103, 105, 100, 61]⟩ : ByteArray) ++ dec r.cred.group).size + ((⟨#[32, 101, 117, 105, 100, 61]⟩ : ByteArray) ++ dec r.cred.eff).size : Nat) : Int) ≤ 9223372036854775807, fun _ => (r.cred.effGroup != r.cred.group) = true]) (by kernel_rfl) ⟨qa, qb, hb2, trivial⟩) (fun a10 w10 hc10 => ?_)
    replace hc10 := hc10.pickx [(0, .e (.c (.rp ⟨b, 0, none⟩))), (4, .e (.c (.p 0 0))), (33, .e (.c (.str (((⟨#[117, 105, 100, 61]⟩ : ByteArray) ++ dec r.cred.real_ ++ (⟨#[32, 103, 105, 100, 61]⟩ : ByteArray) ++ dec r.cred.group) ++ ((⟨#[32, 101, 117, 105, 100, 61]⟩ : ByteArray) ++ dec r.cred.eff))))), (35, .e (.c (.int .i64 r.cred.effGroup)))] [⟨33, r.cred.cs⟩] [] (by kernel_rfl) (by kernel_rfl)
    have hn10 := (hn8.trans hn9).trans (hc9x.mem.same hc10.mem)
    refine gets_pure (Q := fun _ => True) (c := ⟨71, [.c (.int .i64 r.cred.effGroup)], [], #[]⟩) 36 (.e (.c (.str (dec r.cred.effGroup)))) [] [] hc10 (by kernel_rfl) (by kernel_rfl) (by kernel_rfl) (by kernel_rfl) (itoa_calls (hg.keep ((hN5.trans hn10).keep B)) _ hr.f0 hr.f1) (by kernel_rfl) (by kernel_rfl) (fun a11 w11 hn11 _ hc11 => ?_)
    have qc : (((⟨#[32, 101, 103, 105, 100, 61]⟩ : ByteArray).size + (dec r.cred.effGroup).size : Nat) : Int) ≤ 9223372036854775807 := by
      simp only [ByteArray.size_append, z1, z2, z3, z4, z5]
      omega
    have qd : (((((⟨#[117, 105, 100, 61]⟩ : ByteArray) ++ dec r.cred.real_ ++ (⟨#[32, 103, 105, 100, 61]⟩ : ByteArray) ++ dec r.cred.group) ++ ((⟨#[32, 101, 117, 105, 100, 61]⟩ : ByteArray) ++ dec r.cred.eff)).size + ((⟨#[32, 101, 103, 105, 100, 61]⟩ : ByteArray) ++ dec r.cred.effGroup).size : Nat) : Int) ≤ 9223372036854775807 := by
      simp only [ByteArray.size_append, z1, z2, z3, z4, z5]
      omega
    have qe : ((((((⟨#[117, 105, 100, 61]⟩ : ByteArray) ++ dec r.cred.real_ ++ (⟨#[32, 103, 105, 100, 61]⟩ : ByteArray) ++ dec r.cred.group) ++ ((⟨#[32, 101, 117, 105, 100, 61]⟩ : ByteArray) ++ dec r.cred.eff)) ++ ((⟨#[32, 101, 103, 105, 100, 61]⟩ : ByteArray) ++ dec r.cred.effGroup)).size + (⟨#[10]⟩ : ByteArray).size : Nat) : Int) ≤ 9223372036854775807 := by
      simp only [ByteArray.size_append, z1, z2, z3, z4, z5]
      omega
    refine gets_run tab_ok 80 hc11 (holds_of (obs := [fun _ => (((⟨#[32, 101, 103, 105, 100, 61]⟩ : ByteArray).size + (dec r.cred.effGroup).size : Nat) : Int) ≤ 9223372036854775807, fun _ => (((((⟨#[117, 105, 100, 61]⟩ : ByteArray) ++ dec r.cred.real_ ++ (⟨#[32, 103, 105, 100, 61]⟩ : ByteArray) ++ dec r.cred.group) ++ ((⟨#[32, 101, 117, 105, 100, 61]⟩ : ByteArray) ++ dec r.cred.eff)).size + ((⟨#[32, 101, 103, 105, 100, 61]⟩ : ByteArray) ++ dec r.cred.effGroup).size : Nat) : Int) ≤ 9223372036854775807, fun _ => ((((((⟨#[117, 105, 100, 61]⟩ : ByteArray) ++ dec r.cred.real_ ++ (⟨#[32, 103, 105, 100, 61]⟩ : ByteArray) ++ dec r.cred.group) ++ ((⟨#[32, 101, 117, 105, 100, 61]⟩ : ByteArray) ++ dec r.cred.eff)) ++ ((⟨#[32, 101, 103, 105, 100, 61]⟩ : ByteArray) ++ dec r.cred.effGroup)).size + (⟨#[10]⟩ : ByteArray).size : Nat) : Int) ≤ 9223372036854775807]) (by kernel_rfl) ⟨qc, qd, qe, trivial⟩) (fun a12 w12 hc12 => ?_)
    have hr12 := hc12.mem.bs (bs' := [⟨33, r.cred.cs⟩]) (by kernel_rfl)
    have hn12 := (hn10.trans hn11).trans (hc11.mem.same hr12)
    have hN12 := hN5.trans hn12
    obtain ⟨hm12, he12⟩ := hm.fresh hN12
    refine gets_tail (fun w' => MOk B w' b (m.say 1 (idT r.cred true true) .none) ∧ Evo w12 b w') (c := ⟨72, [.c (.rp ⟨b, 0, none⟩), .c (.int .i64 1), .c (.str (idT r.cred true true)), .c (.f 73 [])], [], #[]⟩) hc12 (by kernel_rfl) (by kernel_rfl) ?_ Tryz.func70 rfl (by kernel_rfl) (fun w' h => ⟨rfl, h.1, he12.trans h.2⟩)
    exact say_calls hm12 1 _ (idT_ne _ _ _) .none 73 #[] ⟨rfl, rfl⟩

end Go.Proofs.YtoihipolfdhhnaaGreatDoor

namespace Go.Proofs.YtoihipolfdhhnaaGreatDoor

theorem suffix1_calls {B : Bd} (w : World) (s t : ByteArray) (hs : s.size ≤ 9223372036854775807) (ht : t.size ≤ 9223372036854775807) : Calls Tryz.prog 171 #[.string s, .string t] w (Gives (.bool (endsIn s t)) (fun _ => True) w) := by
  unfold endsIn
  by_cases h : t.size ≤ s.size
  · rw [if_pos h]
    have hw : IntKind.i64.wrap ((s.size : Int) - (t.size : Int)) = ((s.size - t.size : Nat) : Int) := by
      rw [show (s.size : Int) - (t.size : Int) = ((s.size - t.size : Nat) : Int) by omega]
      simp only [IntKind.wrap, IntKind.bits, IntKind.signed]
      simp
      omega
    have o1 : decide ((s.size : Int) ≥ (t.size : Int)) = true := by simp; exact h
    have o2 : True ∧ 0 ≤ IntKind.i64.wrap ((s.size : Int) - (t.size : Int)) ∧ IntKind.i64.wrap ((s.size : Int) - (t.size : Int)) ≤ (s.size : Int) := by rw [hw]; exact ⟨trivial, by omega, by omega⟩
    have e : (s.extract (IntKind.i64.wrap ((s.size : Int) - (t.size : Int))).toNat s.size) = s.extract (s.size - t.size) s.size := by rw [hw]; rfl
    cases hb : (s.extract (s.size - t.size) s.size).toList == t.toList with
    | true =>
      exact gives_end (B := B) [.e (.c (.str s)), .e (.c (.str t))] [true, true] [] 60 [] (obs := [fun _ => decide ((s.size : Int) ≥ (t.size : Int)) = true, fun _ => True ∧ 0 ≤ IntKind.i64.wrap ((s.size : Int) - (t.size : Int)) ∧ IntKind.i64.wrap ((s.size : Int) - (t.size : Int)) ≤ (s.size : Int), fun _ => ((s.extract (IntKind.i64.wrap ((s.size : Int) - (t.size : Int))).toNat s.size).toList == t.toList) = true])
        Tryz.func171 rfl rfl rfl (by kernel_rfl) (by kernel_rfl) (by kernel_rfl) (l := [.c (.bool true)]) (by kernel_rfl) ⟨o1, o2, by rw [e]; exact hb, trivial⟩ rfl (fun _ _ => trivial)
    | false =>
      exact gives_end (B := B) [.e (.c (.str s)), .e (.c (.str t))] [true, false] [] 60 [] (obs := [fun _ => decide ((s.size : Int) ≥ (t.size : Int)) = true, fun _ => True ∧ 0 ≤ IntKind.i64.wrap ((s.size : Int) - (t.size : Int)) ∧ IntKind.i64.wrap ((s.size : Int) - (t.size : Int)) ≤ (s.size : Int), fun _ => ((s.extract (IntKind.i64.wrap ((s.size : Int) - (t.size : Int))).toNat s.size).toList == t.toList) = false])
        Tryz.func171 rfl rfl rfl (by kernel_rfl) (by kernel_rfl) (by kernel_rfl) (l := [.c (.bool false)]) (by kernel_rfl) ⟨o1, o2, by rw [e]; exact hb, trivial⟩ rfl (fun _ _ => trivial)
  · rw [if_neg h]
    have o1 : decide ((s.size : Int) ≥ (t.size : Int)) = false := by simp; omega
    exact gives_end (B := B) [.e (.c (.str s)), .e (.c (.str t))] [false] [] 60 [] (obs := [fun _ => decide ((s.size : Int) ≥ (t.size : Int)) = false]) Tryz.func171 rfl rfl rfl (by kernel_rfl) (by kernel_rfl) (by kernel_rfl) (l := [.c (.bool false)]) (by kernel_rfl) ⟨o1, trivial⟩ rfl (fun _ _ => trivial)

theorem prefix1_calls {B : Bd} (w : World) (s t : ByteArray) : Calls Tryz.prog 163 #[.string s, .string t] w (Gives (.bool (beginsWith s t)) (fun _ => True) w) := by
  unfold beginsWith
  by_cases h : t.size ≤ s.size
  · rw [if_pos h]
    have o1 : decide ((s.size : Int) ≥ (t.size : Int)) = true := by simp; exact h
    have o2 : (0 ≤ (t.size : Int) ∧ (t.size : Int) ≤ (s.size : Int)) ∧ True := ⟨⟨by omega, by omega⟩, trivial⟩
    cases hb : (s.extract 0 t.size).toList == t.toList with
    | true =>
      exact gives_end (B := B) [.e (.c (.str s)), .e (.c (.str t))] [true, true] [] 60 [] (obs := [fun _ => decide ((s.size : Int) ≥ (t.size : Int)) = true, fun _ => (0 ≤ (t.size : Int) ∧ (t.size : Int) ≤ (s.size : Int)) ∧ True, fun _ => ((s.extract 0 ((t.size : Int)).toNat).toList == t.toList) = true])
        Tryz.func163 rfl rfl rfl (by kernel_rfl) (by kernel_rfl) (by kernel_rfl) (l := [.c (.bool true)]) (by kernel_rfl) ⟨o1, o2, hb, trivial⟩ rfl (fun _ _ => trivial)
    | false =>
      exact gives_end (B := B) [.e (.c (.str s)), .e (.c (.str t))] [true, false] [] 60 [] (obs := [fun _ => decide ((s.size : Int) ≥ (t.size : Int)) = true, fun _ => (0 ≤ (t.size : Int) ∧ (t.size : Int) ≤ (s.size : Int)) ∧ True, fun _ => ((s.extract 0 ((t.size : Int)).toNat).toList == t.toList) = false])
        Tryz.func163 rfl rfl rfl (by kernel_rfl) (by kernel_rfl) (by kernel_rfl) (l := [.c (.bool false)]) (by kernel_rfl) ⟨o1, o2, hb, trivial⟩ rfl (fun _ _ => trivial)
  · rw [if_neg h]
    have o1 : decide ((s.size : Int) ≥ (t.size : Int)) = false := by simp; omega
    exact gives_end (B := B) [.e (.c (.str s)), .e (.c (.str t))] [false] [] 60 [] (obs := [fun _ => decide ((s.size : Int) ≥ (t.size : Int)) = false]) Tryz.func163 rfl rfl rfl (by kernel_rfl) (by kernel_rfl) (by kernel_rfl) (l := [.c (.bool false)]) (by kernel_rfl) ⟨o1, trivial⟩ rfl (fun _ _ => trivial)

theorem suffix_calls {B : Bd} (w : World) (s t : ByteArray) (hs : s.size ≤ 9223372036854775807) (ht : t.size ≤ 9223372036854775807) : Calls Tryz.prog 146 #[.string s, .string t] w (Gives (.bool (endsIn s t)) (fun _ => True) w) := by
  refine enter (B := B) tab_ok [.e (.c (.str s)), .e (.c (.str t))] [] [] 20 Tryz.func146 rfl rfl rfl (obs := []) (by kernel_rfl) trivial (fun a1 w1 hc1 => ?_)
  refine gets_pure (c := ⟨171, [.c (.str s), .c (.str t)], [], #[]⟩) 7 (.e (.c (.bool (endsIn s t)))) [] [] hc1 (by kernel_rfl) (by kernel_rfl) (by kernel_rfl) (by kernel_rfl) (suffix1_calls (B := B) w1 s t hs ht) (by kernel_rfl) (by kernel_rfl) (fun a2 w2 hn2 _ hc2 => ?_)
  have hov := (Over.env w (sro B w)).next hc1.mem hn2 (sro B w)
  refine gets_run tab_ok 20 hc2 (holds_of (obs := []) (by kernel_rfl) trivial) (fun a3 w3 hc3 => ?_)
  exact gets_fin tab_ok (l := [.c (.bool (endsIn s t))]) hc3 Tryz.func146 (by kernel_rfl) (by kernel_rfl) ⟨rfl, hov.rel hc3.mem, trivial⟩

theorem prefix_calls {B : Bd} (w : World) (s t : ByteArray) : Calls Tryz.prog 135 #[.string s, .string t] w (Gives (.bool (beginsWith s t)) (fun _ => True) w) := by
  refine enter (B := B) tab_ok [.e (.c (.str s)), .e (.c (.str t))] [] [] 20 Tryz.func135 rfl rfl rfl (obs := []) (by kernel_rfl) trivial (fun a1 w1 hc1 => ?_)
  refine gets_pure (c := ⟨163, [.c (.str s), .c (.str t)], [], #[]⟩) 7 (.e (.c (.bool (beginsWith s t)))) [] [] hc1 (by kernel_rfl) (by kernel_rfl) (by kernel_rfl) (by kernel_rfl) (prefix1_calls (B := B) w1 s t) (by kernel_rfl) (by kernel_rfl) (fun a2 w2 hn2 _ hc2 => ?_)
  have hov := (Over.env w (sro B w)).next hc1.mem hn2 (sro B w)
  refine gets_run tab_ok 20 hc2 (holds_of (obs := []) (by kernel_rfl) trivial) (fun a3 w3 hc3 => ?_)
  exact gets_fin tab_ok (l := [.c (.bool (beginsWith s t))]) hc3 Tryz.func135 (by kernel_rfl) (by kernel_rfl) ⟨rfl, hov.rel hc3.mem, trivial⟩

/-- path.Join. -/
theorem join_calls {B : Bd} (w : World) (d n : ByteArray) (hs : d.size + n.size + 1 ≤ 9223372036854775807) : Calls Tryz.prog 95 #[.string d, .string n] w (Gives (.string (join d n)) (fun _ => True) w) := by
  have z : (⟨#[47]⟩ : ByteArray).size = 1 := rfl
  have e0 : (⟨#[]⟩ : ByteArray).toList = [] := by rw [ByteArray.toList_eq]
  have o1 : ((d.size + n.size : Nat) : Int) ≤ 9223372036854775807 := by omega
  have o2 : ((d.size + (⟨#[47]⟩ : ByteArray).size : Nat) : Int) ≤ 9223372036854775807 := by rw [z]; omega
  have o3 : (((d ++ ⟨#[47]⟩).size + n.size : Nat) : Int) ≤ 9223372036854775807 := by rw [ByteArray.size_append, z]; omega
  unfold join
  cases he : (d.toList == []) with
  | true =>
    rw [if_pos (.inl rfl)]
    exact gives_end (B := B) [.e (.c (.str d)), .e (.c (.str n))] [true] [] 60 [] (obs := [fun _ => (d.toList == (⟨#[]⟩ : ByteArray).toList) = true, fun _ => ((d.size + n.size : Nat) : Int) ≤ 9223372036854775807]) Tryz.func95 rfl rfl rfl (by kernel_rfl) (by kernel_rfl) (by kernel_rfl) (l := [.c (.str (d ++ n))]) (by kernel_rfl) ⟨by rw [e0]; exact he, o1, trivial⟩ rfl (fun _ _ => trivial)
  | false =>
    refine enter (B := B) tab_ok [.e (.c (.str d)), .e (.c (.str n))] [false] [] 60 Tryz.func95 rfl rfl rfl (obs := [fun _ => (d.toList == (⟨#[]⟩ : ByteArray).toList) = false]) (by kernel_rfl) ⟨by rw [e0]; exact he, trivial⟩ (fun a1 w1 hc1 => ?_)
    replace hc1 := hc1.pickx [(0, .e (.c (.str d))), (1, .e (.c (.str n))), (7, .e (.c (.bool false))), (8, .e (.c (.str d)))] [] [] (by kernel_rfl) (by kernel_rfl)
    cases hb : endsIn d ⟨#[47]⟩ with
    | true =>
      rw [if_pos (.inr rfl)]
      refine gets_pure (c := ⟨146, [.c (.str d), .c (.str ⟨#[47]⟩)], [], #[]⟩) 9 (.e (.c (.bool true))) [] [] hc1 (by kernel_rfl) (by kernel_rfl) (by kernel_rfl) (by kernel_rfl) (by have := suffix_calls (B := B) w1 d ⟨#[47]⟩ (by omega) (by decide); rw [hb] at this; exact this) (by kernel_rfl) (by kernel_rfl) (fun a2 w2 hn2 _ hc2 => ?_)
      have hov := (Over.env w (sro B w)).next hc1.mem hn2 (sro B w)
      refine gets_run tab_ok 40 hc2 (holds_of (obs := [fun _ => ((d.size + n.size : Nat) : Int) ≤ 9223372036854775807]) (by kernel_rfl) ⟨o1, trivial⟩) (fun a3 w3 hc3 => ?_)
      exact gets_fin tab_ok (l := [.c (.str (d ++ n))]) hc3 Tryz.func95 (by kernel_rfl) (by kernel_rfl) ⟨rfl, hov.rel hc3.mem, trivial⟩
    | false =>
      rw [if_neg (by simp)]
      refine gets_pure (c := ⟨146, [.c (.str d), .c (.str ⟨#[47]⟩)], [], #[]⟩) 9 (.e (.c (.bool false))) [] [] hc1 (by kernel_rfl) (by kernel_rfl) (by kernel_rfl) (by kernel_rfl) (by have := suffix_calls (B := B) w1 d ⟨#[47]⟩ (by omega) (by decide); rw [hb] at this; exact this) (by kernel_rfl) (by kernel_rfl) (fun a2 w2 hn2 _ hc2 => ?_)
      have hov := (Over.env w (sro B w)).next hc1.mem hn2 (sro B w)
      refine gets_run tab_ok 40 hc2 (holds_of (obs := [fun _ => ((d.size + (⟨#[47]⟩ : ByteArray).size : Nat) : Int) ≤ 9223372036854775807, fun _ => (((d ++ ⟨#[47]⟩).size + n.size : Nat) : Int) ≤ 9223372036854775807]) (by kernel_rfl) ⟨o2, o3, trivial⟩) (fun a3 w3 hc3 => ?_)
      exact gets_fin tab_ok (l := [.c (.str (d ++ ⟨#[47]⟩ ++ n))]) hc3 Tryz.func95 (by kernel_rfl) (by kernel_rfl) ⟨rfl, hov.rel hc3.mem, trivial⟩

/- GONE -/

/-- Gone. -/
theorem gone_calls {B : Bd} {w : World} {b : Nat} {m : M} (hm : MOk B w b m) (p has : ByteArray) (deep : Int) (hs : m.prog.size + p.size ≤ 1152921504606846976) :
    Calls Tryz.prog 90 #[bp b, .string p, .string has, .int .i64 deep] w (Does B b w (m.gone p has deep)) := by
  unfold M.gone
  by_cases hd : deep > 24
  · rw [if_pos hd]
    refine does_tail [.e (.c (.rp ⟨b, 0, none⟩)), .e (.c (.str p)), .e (.c (.str has)), .e (.c (.int .i64 deep))] [true] [] 40 [⟨9, [.str p]⟩, ⟨9, [.str has]⟩, ⟨3, [.int .i64 deep]⟩]
      ⟨99, [.c (.rp ⟨b, 0, none⟩), .c (.str p), .c (.int .i64 10)], [], #[]⟩ (obs := [fun _ => decide (deep > 24) = true]) hm Tryz.func90 rfl rfl rfl (by kernel_rfl) (by kernel_rfl) (by kernel_rfl) (by kernel_rfl) rfl (by kernel_rfl) ⟨by simp [hd], trivial⟩ (fun w1 _ hm1 _ => ?_)
    exact bad_calls hm1 p 10 hs
  · rw [if_neg hd]
    refine does_tail [.e (.c (.rp ⟨b, 0, none⟩)), .e (.c (.str p)), .e (.c (.str has)), .e (.c (.int .i64 deep))] [false] [] 40 [⟨9, [.str p]⟩, ⟨9, [.str has]⟩, ⟨3, [.int .i64 deep]⟩]
      ⟨69, [.c (.rp ⟨b, 0, none⟩), .a ({ op := 11, path := p } : CallD).cs, .c (.f 139 [.n 1 0, .n 0 0, .n 2 0])], [], #[]⟩ (obs := [fun _ => decide (deep > 24) = false]) hm Tryz.func90 rfl rfl rfl (by kernel_rfl) (by kernel_rfl) (by kernel_rfl) (by kernel_rfl) rfl (by kernel_rfl) ⟨by simp [hd], trivial⟩ (fun w1 hr1 hm1 _ => ?_)
    exact sys_calls hm1 { op := 11, path := p } (.gone p has deep) 139 _ ⟨rfl, w.heap.size + 1, w.heap.size, w.heap.size + 2, rfl, box_of hm.xs hr1 (i := 1) rfl rfl rfl, box_of hm.xs hr1 (i := 0) rfl rfl rfl, box_of hm.xs hr1 (i := 2) rfl rfl rfl⟩

theorem goneD_calls {B : Bd} {w : World} {b : Nat} {m : M} (hm : MOk B w b m) (p : ByteArray) (f : FuncId) (c : Array Value) (hk : RepF B w (.goneD p) f c) : Calls Tryz.prog f (#[bp b] ++ c) w (Does B b w (m.tries { op := 11, path := p, dir := true } p (.noop 142))) := by
  obtain ⟨rfl, k, rfl, h1⟩ := hk
  refine does_tail [.e (.c (.rp ⟨b, 0, none⟩)), .e (.c (.rp ⟨k, 0, none⟩))] [] [.e (.c (.str p)), .e (.c (.str p))] 40 [] ⟨80, [.c (.rp ⟨b, 0, none⟩), .a ({ op := 11, path := p, dir := true } : CallD).cs, .c (.str p), .c (.f 142 [])], [], #[]⟩
    (obs := [fun ε => ε.ro ⟨k, 0, none⟩ = some (.string p), fun ε => ε.ro ⟨k, 0, none⟩ = some (.string p)]) hm Tryz.func141 rfl rfl rfl (by kernel_rfl) (by kernel_rfl) (by kernel_rfl) (by kernel_rfl) rfl (by kernel_rfl) ⟨Box.sro h1, Box.sro h1, trivial⟩ (fun w1 _ hm1 _ => ?_)
  exact tries_calls hm1 { op := 11, path := p, dir := true } p (.noop 142) 142 #[] ⟨rfl, by simp, rfl⟩

end Go.Proofs.YtoihipolfdhhnaaGreatDoor

namespace Go.Proofs.YtoihipolfdhhnaaGreatDoor

theorem noop_calls {B : Bd} {w : World} {b : Nat} {m : M} (hm : MOk B w b m) (g : Nat) (f : FuncId) (c : Array Value) (hk : RepR B w (.noop g) f c) (r : Res) (a : Option Addr) (n cp : Nat) : Calls Tryz.prog f (#[bp b, resV r a n cp] ++ c) w (Does B b w m) := by
  obtain ⟨rfl, h, rfl⟩ := hk
  rcases h with rfl | rfl | rfl | rfl | rfl
  · exact does_end [.e (.c (.rp ⟨b, 0, none⟩)), rsX r a n cp] [] [] 20 [⟨35, r.cs a n cp⟩] (obs := []) hm Tryz.func86 rfl rfl rfl (by kernel_rfl) (by kernel_rfl) (by kernel_rfl) rfl trivial
  · exact does_end [.e (.c (.rp ⟨b, 0, none⟩)), rsX r a n cp] [] [] 20 [⟨35, r.cs a n cp⟩] (obs := []) hm Tryz.func97 rfl rfl rfl (by kernel_rfl) (by kernel_rfl) (by kernel_rfl) rfl trivial
  · exact does_end [.e (.c (.rp ⟨b, 0, none⟩)), rsX r a n cp] [] [] 20 [⟨35, r.cs a n cp⟩] (obs := []) hm Tryz.func105 rfl rfl rfl (by kernel_rfl) (by kernel_rfl) (by kernel_rfl) rfl trivial
  · exact does_end [.e (.c (.rp ⟨b, 0, none⟩)), rsX r a n cp] [] [] 20 [⟨35, r.cs a n cp⟩] (obs := []) hm Tryz.func110 rfl rfl rfl (by kernel_rfl) (by kernel_rfl) (by kernel_rfl) rfl trivial
  · exact does_end [.e (.c (.rp ⟨b, 0, none⟩)), rsX r a n cp] [] [] 20 [⟨35, r.cs a n cp⟩] (obs := []) hm Tryz.func142 rfl rfl rfl (by kernel_rfl) (by kernel_rfl) (by kernel_rfl) rfl trivial

/-- rm's word. -/
theorem rm1_calls {B : Bd} {w : World} {b : Nat} {m : M} (hm : MOk B w b m) (has s : ByteArray) (f : FuncId) (c : Array Value) (hk : RepE B w (.rm has) f c) (hs : m.prog.size + s.size ≤ 1152921504606846976) :
    Calls Tryz.prog f (#[bp b, .string s] ++ c) w (Does B b w (m.gone s has 0)) := by
  obtain ⟨rfl, k, rfl, h1⟩ := hk
  refine does_tail [.e (.c (.rp ⟨b, 0, none⟩)), .e (.c (.str s)), .e (.c (.rp ⟨k, 0, none⟩))] [] [.e (.c (.str has))] 40 [] ⟨90, [.c (.rp ⟨b, 0, none⟩), .c (.str s), .c (.str has), .c (.int .i64 0)], [], #[]⟩
    (obs := [fun ε => ε.ro ⟨k, 0, none⟩ = some (.string has)]) hm Tryz.func89 rfl rfl rfl (by kernel_rfl) (by kernel_rfl) (by kernel_rfl) (by kernel_rfl) rfl (by kernel_rfl) ⟨Box.sro h1, trivial⟩ (fun w1 _ hm1 _ => ?_)
  exact gone_calls hm1 s has 0 hs

/-- renames$1. -/
theorem ren_calls {B : Bd} {w : World} {b : Nat} {m : M} (hm : MOk B w b m) (op : Int) (src dst : ByteArray) (f : FuncId) (c : Array Value) (hk : RepB B w (.ren op) f c) :
    Calls Tryz.prog f (#[bp b, .string src, .string dst] ++ c) w (Does B b w (m.bring (.ren op) src dst)) := by
  obtain ⟨rfl, k, rfl, h1⟩ := hk
  refine does_tail [.e (.c (.rp ⟨b, 0, none⟩)), .e (.c (.str src)), .e (.c (.str dst)), .e (.c (.rp ⟨k, 0, none⟩))] [] [.e (.c (.int .i64 op))] 40 [] ⟨80, [.c (.rp ⟨b, 0, none⟩), .a ({ op := op, path := src, as_ := dst } : CallD).cs, .c (.str src), .c (.f 97 [])], [], #[]⟩
    (obs := [fun ε => ε.ro ⟨k, 0, none⟩ = some (.int .i64 op)]) hm Tryz.func96 rfl rfl rfl (by kernel_rfl) (by kernel_rfl) (by kernel_rfl) (by kernel_rfl) rfl (by kernel_rfl) ⟨Box.sro h1, trivial⟩ (fun w1 _ hm1 _ => ?_)
  exact tries_calls hm1 { op := op, path := src, as_ := dst } src (.noop 97) 97 #[] ⟨rfl, by simp, rfl⟩

/-- copies. -/
theorem cop_calls {B : Bd} {w : World} {b : Nat} {m : M} (hm : MOk B w b m) (src dst : ByteArray) (f : FuncId) (c : Array Value) (hk : RepB B w .cop f c) :
    Calls Tryz.prog f (#[bp b, .string src, .string dst] ++ c) w (Does B b w (m.bring .cop src dst)) := by
  obtain ⟨rfl, rfl⟩ := hk
  refine does_tail [.e (.c (.rp ⟨b, 0, none⟩)), .e (.c (.str src)), .e (.c (.str dst))] [] [] 40 [⟨9, [.str src]⟩, ⟨9, [.str dst]⟩] ⟨80, [.c (.rp ⟨b, 0, none⟩), .a ({ op := 8, path := src } : CallD).cs, .c (.str src), .c (.f 98 [.n 0 0, .n 1 0])], [], #[]⟩
    (obs := []) hm Tryz.func49 rfl rfl rfl (by kernel_rfl) (by kernel_rfl) (by kernel_rfl) (by kernel_rfl) rfl (by kernel_rfl) trivial (fun w1 hr1 hm1 _ => ?_)
  exact tries_calls hm1 { op := 8, path := src } src (.copies1 src dst) 98 _ ⟨rfl, w.heap.size, w.heap.size + 1, rfl, box_of hm.xs hr1 (i := 0) rfl rfl rfl, box_of hm.xs hr1 (i := 1) rfl rfl rfl⟩

end Go.Proofs.YtoihipolfdhhnaaGreatDoor

namespace Go.Proofs.YtoihipolfdhhnaaGreatDoor

theorem copied1_calls {B : Bd} {w : World} {b : Nat} {m : M} (hm : MOk B w b m) (src dst : ByteArray) (f : FuncId) (c : Array Value) (hk : RepR B w (.copies1 src dst) f c) (r : Res) (a : Option Addr) (n cp : Nat) (hs : m.prog.size + src.size ≤ 1152921504606846976) :
    Calls Tryz.prog f (#[bp b, resV r a n cp] ++ c) w (Does B b w (m.copied1 src dst r)) := by
  obtain ⟨rfl, k1, k2, rfl, h1, h2⟩ := hk
  unfold M.copied1
  by_cases hd : r.info.kind = 1
  · rw [if_pos hd]
    refine does_tail [.e (.c (.rp ⟨b, 0, none⟩)), rsX r a n cp, .e (.c (.rp ⟨k1, 0, none⟩)), .e (.c (.rp ⟨k2, 0, none⟩))] [true] [.e (.c (.str src))] 60 [⟨35, r.cs a n cp⟩] ⟨99, [.c (.rp ⟨b, 0, none⟩), .c (.str src), .c (.int .i64 7)], [], #[]⟩
      (obs := [fun _ => (r.info.kind == 1) = true, fun ε => ε.ro ⟨k1, 0, none⟩ = some (.string src)]) hm Tryz.func98 rfl rfl rfl (by kernel_rfl) (by kernel_rfl) (by kernel_rfl) (by kernel_rfl) rfl (by kernel_rfl) ⟨by simp [hd], Box.sro h1, trivial⟩ (fun w1 _ hm1 _ => ?_)
    exact bad_calls hm1 src 7 hs
  · rw [if_neg hd]
    refine does_tail [.e (.c (.rp ⟨b, 0, none⟩)), rsX r a n cp, .e (.c (.rp ⟨k1, 0, none⟩)), .e (.c (.rp ⟨k2, 0, none⟩))] [false] [.e (.c (.str src)), .e (.c (.str src))] 60 [⟨35, r.cs a n cp⟩, ⟨37, [.int .i64 2, .bool true, .bool false, .bool true, .bool false, .int .i64 (IntKind.i64.wrap (BitVec.ofInt 64 r.info.mode &&& BitVec.ofInt 64 511).toNat)]⟩]
      ⟨80, [.c (.rp ⟨b, 0, none⟩), .a ({ op := 2, path := src, want := 4 } : CallD).cs, .c (.str src), .c (.f 100 [.r ⟨k2, 0, none⟩, .n 1 0])], [], #[]⟩
      (obs := [fun _ => (r.info.kind == 1) = false, fun ε => ε.ro ⟨k1, 0, none⟩ = some (.string src), fun ε => ε.ro ⟨k1, 0, none⟩ = some (.string src)]) hm Tryz.func98 rfl rfl rfl (by kernel_rfl) (by kernel_rfl) (by kernel_rfl) (by kernel_rfl) rfl (by kernel_rfl) ⟨by simp [hd], Box.sro h1, Box.sro h1, trivial⟩ (fun w1 hr1 hm1 hk1 => ?_)
    refine tries_calls hm1 { op := 2, path := src, want := 4 } src (.copies2 dst _) 100 _ ⟨rfl, k2, w.heap.size + 1, rfl, Box.keep h2 hk1, ?_⟩
    have := hr1.cells 1 _ rfl
    rw [map_plain _ rfl] at this
    exact ⟨this, hm.notx (Nat.le_add_right _ _)⟩

/-- A whole block, read. -/
theorem sro_cells {B : Bd} {w : World} {k : Nat} {l : List C} {T : TypeId} (h : w.heap[k]? = some (.cells (plainR l) T (0, 0))) (hl : l.all (C.below 0) = true) (h1 : T ≠ 66) (h2 : T ≠ 84) (h3 : T ≠ 39) (h4 : k ∉ B.x) (ρ : Nat → Nat) :
    ∀ j x, l[j]? = some x → sro B w ((⟨k, 0, none⟩ : Addr).add j) = some (x.real ρ) := by
  intro j x hj
  refine sro_of (by rw [addr_add_block]; exact .inr ⟨_, _, _, h, h1, h2, h3, h4⟩) ?_
  rw [addr_add]
  have hx := real_plain ρ (List.all_eq_true.1 hl x (List.mem_of_getElem? hj))
  rw [hx]
  simp [World.cell?, h, plainR, hj]

/-- copies$1$1. -/
theorem copied2_calls {B : Bd} {w : World} {b : Nat} {m : M} (hm : MOk B w b m) (dst : ByteArray) (mode : Int) (f : FuncId) (c : Array Value) (hk : RepR B w (.copies2 dst mode) f c) (r : Res) (a : Option Addr) (n cp : Nat) (hn : StrsAt B w a n cp r.names) :
    Calls Tryz.prog f (#[bp b, resV r a n cp] ++ c) w (Does B b w (m.sys { op := 2, path := dst, want := 2, make := true, empty := true, hmode := mode } (.copies3 dst r))) := by
  obtain ⟨rfl, k1, k2, rfl, h1, h2⟩ := hk
  refine does_tail [.e (.c (.rp ⟨b, 0, none⟩)), rsX r a n cp, .e (.c (.rp ⟨k1, 0, none⟩)), .e (.c (.rp ⟨k2, 0, none⟩))] [] [.e (.c (.str dst)), .e (.a [.int .i64 2, .bool true, .bool false, .bool true, .bool false, .int .i64 mode])] 60 [⟨35, r.cs a n cp⟩]
    ⟨69, [.c (.rp ⟨b, 0, none⟩), .a ({ op := 2, path := dst, want := 2, make := true, empty := true, hmode := mode } : CallD).cs, .c (.f 101 [.n 0 0, .r ⟨k1, 0, none⟩])], [], #[]⟩
    (obs := [fun ε => ε.ro ⟨k1, 0, none⟩ = some (.string dst), fun ε => ∀ j x, ([.int .i64 2, .bool true, .bool false, .bool true, .bool false, .int .i64 mode] : List C)[j]? = some x → ε.ro ((⟨k2, 0, none⟩ : Addr).add j) = some (x.real ε.ρ)]) hm Tryz.func100 rfl rfl rfl (by kernel_rfl) (by kernel_rfl) (by kernel_rfl) (by kernel_rfl) rfl (by kernel_rfl)
    ⟨Box.sro h1, sro_cells h2.1 rfl (by decide) (by decide) (by decide) h2.2 _, trivial⟩ (fun w1 hr1 hm1 hk1 => ?_)
  refine sys_calls hm1 { op := 2, path := dst, want := 2, make := true, empty := true, hmode := mode } (.copies3 dst r) 101 _ ⟨rfl, w.heap.size, k1, rfl, ⟨a, n, cp, ?_, hn.keep hk1, hm.notx (Nat.le_refl _)⟩, Box.keep h1 hk1⟩
  have := hr1.cells 0 _ rfl
  rw [map_plain _ rfl] at this
  exact this

end Go.Proofs.YtoihipolfdhhnaaGreatDoor

namespace Go.Proofs
open Go.Shelf
def Tryz.lays144_ren : Go.Shelf.Ren := ⟨fun | 144 => 88 | 143 => 138 | 219 => 165 | 217 => 189 | 225 => 190 | 224 => 191 | 267 => 192 | 266 => 208 | 314 => 209 | n => n, fun | 9 => 9 | 4 => 4 | 3 => 3 | 5 => 5 | 46 => 48 | 146 => 183 | 51 => 180 | n => n, fun | 1 => 0 | n => n⟩
theorem Tryz.lays144 : Go.Proofs.Lays.n144 Tryz.prog Tryz.lays144_ren := {
  mixed := by kernel_rfl
  f143 := Tryz.func138.trans (congrArg some (by kernel_rfl))
  f144 := Tryz.func88.trans (congrArg some (by kernel_rfl))
  f217 := Tryz.func189.trans (congrArg some (by kernel_rfl))
  f219 := Tryz.func165.trans (congrArg some (by kernel_rfl))
  f224 := Tryz.func191.trans (congrArg some (by kernel_rfl))
  f225 := Tryz.func190.trans (congrArg some (by kernel_rfl))
  f266 := Tryz.func208.trans (congrArg some (by kernel_rfl))
  f267 := Tryz.func192.trans (congrArg some (by kernel_rfl))
  f314 := Tryz.func209.trans (congrArg some (by kernel_rfl))
  t3 := Tryz.underlying3
  a3 := Tryz.isAgg3
  z3 := Tryz.sizeOf3
  v3 := Tryz.zeroValue3
  t4 := Tryz.underlying4
  a4 := Tryz.isAgg4
  z4 := Tryz.sizeOf4
  v4 := Tryz.zeroValue4
  t5 := Tryz.underlying5
  a5 := Tryz.isAgg5
  z5 := Tryz.sizeOf5
  v5 := Tryz.zeroValue5
  t9 := Tryz.underlying9
  a9 := Tryz.isAgg9
  z9 := Tryz.sizeOf9
  v9 := Tryz.zeroValue9
  t46 := Tryz.underlying48
  a46 := Tryz.isAgg48
  z46 := Tryz.sizeOf48
  v46 := Tryz.zeroValue48
  t51 := Tryz.underlying180
  a51 := Tryz.isAgg180
  z51 := Tryz.sizeOf180
  v51 := Tryz.zeroValue180
  t146 := Tryz.underlying183
  a146 := Tryz.isAgg183
  z146 := Tryz.sizeOf183
  v146 := Tryz.zeroValue183
  g1 := by kernel_rfl }
open Go.RowKit Go.Lib in
/-- strings.Contains: "Contains reports whether substr is within s.": AT A substr OF ONE BYTE c: IT RETURNS 'decide (0 ≤ Lib.indexByte s c)'; the world is as it was. (LAID: no walk: one application.) -/
theorem Tryz.strings_Contains_one (s : ByteArray) (c : UInt8) (w : World) :
    Calls Tryz.prog 88 #[.string s, .string ⟨#[c]⟩] w fun e w' => e = .returned (.bool (decide (0 ≤ Lib.indexByte s.data.toList c))) ∧ w' = w := Any.strings_Contains_one Tryz.lays144 s c w
end Go.Proofs

namespace Go.Proofs.YtoihipolfdhhnaaGreatDoor

theorem contains_calls (w : World) (s : ByteArray) (c : UInt8) : Calls Tryz.prog 88 #[.string s, .string ⟨#[c]⟩] w (Gives (.bool (holdsB s c)) (fun _ => True) w) :=
  Calls.mono (Tryz.strings_Contains_one s c w) (fun e w' ⟨e1, e2⟩ => ⟨e1, by subst e2; exact New.refl _, trivial⟩)

theorem gone1_calls {B : Bd} {w : World} {b : Nat} {m : M} (hm : MOk B w b m) (p has : ByteArray) (deep : Int) (f : FuncId) (c : Array Value) (hk : RepR B w (.gone p has deep) f c) (r : Res) (a : Option Addr) (n cp : Nat) (hs : m.prog.size + p.size ≤ 1152921504606846976) :
    Calls Tryz.prog f (#[bp b, resV r a n cp] ++ c) w (Does B b w (m.gone1 p has deep r)) := by
  obtain ⟨rfl, k1, k2, k3, rfl, h1, h2, h3⟩ := hk
  unfold M.gone1
  by_cases e0 : r.err = 0
  · rw [if_pos (.inl e0)]
    exact does_end [.e (.c (.rp ⟨b, 0, none⟩)), rsX r a n cp, .e (.c (.rp ⟨k1, 0, none⟩)), .e (.c (.rp ⟨k2, 0, none⟩)), .e (.c (.rp ⟨k3, 0, none⟩))] [true] [] 80 [⟨35, r.cs a n cp⟩] (obs := [fun _ => (r.err == 0) = true]) hm Tryz.func139 rfl rfl rfl (by kernel_rfl) (by kernel_rfl) (by kernel_rfl) rfl ⟨by simp [e0], trivial⟩
  · by_cases e3 : r.err = 3
    · refine enter (B := B) tab_ok [.e (.c (.rp ⟨b, 0, none⟩)), rsX r a n cp, .e (.c (.rp ⟨k1, 0, none⟩)), .e (.c (.rp ⟨k2, 0, none⟩)), .e (.c (.rp ⟨k3, 0, none⟩))] [false, true] [.e (.c (.str has))] 120 Tryz.func139 rfl rfl rfl (obs := [fun _ => (r.err == 0) = false, fun _ => (r.err == 3) = true, fun ε => ε.ro ⟨k1, 0, none⟩ = some (.string has)]) (by kernel_rfl) ⟨by simp [e0], by simp [e3], Box.sro h1, trivial⟩ (fun a1 w1 hc1 => ?_)
      replace hc1 := hc1.pickx [(0, .e (.c (.rp ⟨b, 0, none⟩))), (3, .e (.c (.rp ⟨k2, 0, none⟩))), (6, .e (.c (.p 0 0))), (20, .e (.c (.bool true))), (21, .e (.c (.str has)))] [⟨35, r.cs a n cp⟩] [] (by kernel_rfl) (by kernel_rfl)
      have hN1 := (Over.env w (sro B w)).rel hc1.mem
      cases hb : holdsB has 102 with
      | true =>
        rw [if_pos (.inr ⟨e3, rfl⟩)]
        refine gets_pure (c := ⟨88, [.c (.str has), .c (.str ⟨#[102]⟩)], [], #[]⟩) 22 (.e (.c (.bool true))) [] [] hc1 (by kernel_rfl) (by kernel_rfl) (by kernel_rfl) (by kernel_rfl) (by have := contains_calls w1 has 102; rw [hb] at this; exact this) (by kernel_rfl) (by kernel_rfl) (fun a2 w2 hn2 _ hc2 => ?_)
        have hov := (Over.env w (sro B w)).next hc1.mem hn2 (sro B w)
        refine gets_run tab_ok 40 hc2 (holds_of (obs := []) (by kernel_rfl) trivial) (fun a3 w3 hc3 => ?_)
        obtain ⟨hm3, he3⟩ := hm.fresh (hov.rel hc3.mem)
        exact gets_end0 hc3.defers Tryz.func139 rfl (by kernel_rfl) ⟨rfl, hm3, he3⟩
      | false =>
        rw [if_neg (by simp [e0]), if_pos (.inl (by rw [e3]; decide))]
        refine gets_pure (c := ⟨88, [.c (.str has), .c (.str ⟨#[102]⟩)], [], #[]⟩) 22 (.e (.c (.bool false))) [true] [.e (.c (.str p))] hc1 (by kernel_rfl) (by kernel_rfl) (by kernel_rfl) (by kernel_rfl) (by have := contains_calls w1 has 102; rw [hb] at this; exact this) (by kernel_rfl) (by kernel_rfl) (fun a2 w2 hn2 _ hc2 => ?_)
        have hov := (Over.env w (sro B w)).next hc1.mem hn2 (sro B w)
        refine gets_run tab_ok 60 hc2 (holds_of (obs := [fun _ => (r.err != 7) = true, fun ε => ε.ro ⟨k2, 0, none⟩ = some (.string p)]) (by kernel_rfl) ⟨by simp [e3], Box.sro h2, trivial⟩) (fun a3 w3 hc3 => ?_)
        refine gets_last (bs := [⟨35, r.cs a n cp⟩]) (c := ⟨99, [.c (.rp ⟨b, 0, none⟩), .c (.str p), .c (.int .i64 r.err)], [], #[]⟩) hm hov hc3 (by kernel_rfl) (by kernel_rfl) (by kernel_rfl) Tryz.func139 rfl (by kernel_rfl) (fun _ hm3 _ => ?_)
        exact bad_calls hm3 p r.err hs
    · by_cases e7 : r.err = 7
      · refine enter (B := B) tab_ok [.e (.c (.rp ⟨b, 0, none⟩)), rsX r a n cp, .e (.c (.rp ⟨k1, 0, none⟩)), .e (.c (.rp ⟨k2, 0, none⟩)), .e (.c (.rp ⟨k3, 0, none⟩))] [false, false, false] [.e (.c (.str has))] 120 Tryz.func139 rfl rfl rfl (obs := [fun _ => (r.err == 0) = false, fun _ => (r.err == 3) = false, fun _ => (r.err != 7) = false, fun ε => ε.ro ⟨k1, 0, none⟩ = some (.string has)]) (by kernel_rfl) ⟨by simp [e0], by simp [e3], by simp [e7], Box.sro h1, trivial⟩ (fun a1 w1 hc1 => ?_)
        replace hc1 := hc1.pickx [(0, .e (.c (.rp ⟨b, 0, none⟩))), (2, .e (.c (.rp ⟨k1, 0, none⟩))), (3, .e (.c (.rp ⟨k2, 0, none⟩))), (4, .e (.c (.rp ⟨k3, 0, none⟩))), (6, .e (.c (.p 0 0))), (27, .e (.c (.bool false))), (28, .e (.c (.bool false))), (29, .e (.c (.str has)))] [⟨35, r.cs a n cp⟩] [] (by kernel_rfl) (by kernel_rfl)
        have hN1 := (Over.env w (sro B w)).rel hc1.mem
        cases hb : holdsB has 114 with
        | false =>
          rw [if_neg (by simp [e0, e3]), if_pos (.inr rfl)]
          refine gets_pure (c := ⟨88, [.c (.str has), .c (.str ⟨#[114]⟩)], [], #[]⟩) 30 (.e (.c (.bool false))) [] [.e (.c (.str p))] hc1 (by kernel_rfl) (by kernel_rfl) (by kernel_rfl) (by kernel_rfl) (by have := contains_calls w1 has 114; rw [hb] at this; exact this) (by kernel_rfl) (by kernel_rfl) (fun a2 w2 hn2 _ hc2 => ?_)
          have hov := (Over.env w (sro B w)).next hc1.mem hn2 (sro B w)
          refine gets_run tab_ok 60 hc2 (holds_of (obs := [fun ε => ε.ro ⟨k2, 0, none⟩ = some (.string p)]) (by kernel_rfl) ⟨Box.sro h2, trivial⟩) (fun a3 w3 hc3 => ?_)
          refine gets_last (bs := [⟨35, r.cs a n cp⟩]) (c := ⟨99, [.c (.rp ⟨b, 0, none⟩), .c (.str p), .c (.int .i64 r.err)], [], #[]⟩) hm hov hc3 (by kernel_rfl) (by kernel_rfl) (by kernel_rfl) Tryz.func139 rfl (by kernel_rfl) (fun _ hm3 _ => ?_)
          exact bad_calls hm3 p r.err hs
        | true =>
          rw [if_neg (by simp [e0, e3]), if_neg (by simp [e7])]
          refine gets_pure (c := ⟨88, [.c (.str has), .c (.str ⟨#[114]⟩)], [], #[]⟩) 30 (.e (.c (.bool true))) [] [.e (.c (.str p)), .e (.c (.str p))] hc1 (by kernel_rfl) (by kernel_rfl) (by kernel_rfl) (by kernel_rfl) (by have := contains_calls w1 has 114; rw [hb] at this; exact this) (by kernel_rfl) (by kernel_rfl) (fun a2 w2 hn2 _ hc2 => ?_)
          have hov := (Over.env w (sro B w)).next hc1.mem hn2 (sro B w)
          refine gets_run tab_ok 60 hc2 (holds_of (obs := [fun ε => ε.ro ⟨k2, 0, none⟩ = some (.string p), fun ε => ε.ro ⟨k2, 0, none⟩ = some (.string p)]) (by kernel_rfl) ⟨Box.sro h2, Box.sro h2, trivial⟩) (fun a3 w3 hc3 => ?_)
          refine gets_last (bs := [⟨35, r.cs a n cp⟩]) (c := ⟨80, [.c (.rp ⟨b, 0, none⟩), .a ({ op := 9, path := p } : CallD).cs, .c (.str p), .c (.f 140 [.r ⟨k2, 0, none⟩, .r ⟨k1, 0, none⟩, .r ⟨k3, 0, none⟩])], [], #[]⟩) hm hov hc3 (by kernel_rfl) (by kernel_rfl) (by kernel_rfl) Tryz.func139 rfl (by kernel_rfl) (fun _ hm3 hk3 => ?_)
          exact tries_calls hm3 { op := 9, path := p } p (.goneL p has deep) 140 _ ⟨rfl, k2, k1, k3, rfl, Box.keep h2 hk3, Box.keep h1 hk3, Box.keep h3 hk3⟩
      · rw [if_neg (by simp [e0, e3]), if_pos (.inl e7)]
        refine does_tail [.e (.c (.rp ⟨b, 0, none⟩)), rsX r a n cp, .e (.c (.rp ⟨k1, 0, none⟩)), .e (.c (.rp ⟨k2, 0, none⟩)), .e (.c (.rp ⟨k3, 0, none⟩))] [false, false, true] [.e (.c (.str p))] 120 [⟨35, r.cs a n cp⟩] ⟨99, [.c (.rp ⟨b, 0, none⟩), .c (.str p), .c (.int .i64 r.err)], [], #[]⟩
          (obs := [fun _ => (r.err == 0) = false, fun _ => (r.err == 3) = false, fun _ => (r.err != 7) = true, fun ε => ε.ro ⟨k2, 0, none⟩ = some (.string p)]) hm Tryz.func139 rfl rfl rfl (by kernel_rfl) (by kernel_rfl) (by kernel_rfl) (by kernel_rfl) rfl (by kernel_rfl) ⟨by simp [e0], by simp [e3], by simp [e7], Box.sro h2, trivial⟩ (fun w1 _ hm1 _ => ?_)
        exact bad_calls hm1 p r.err hs

end Go.Proofs.YtoihipolfdhhnaaGreatDoor

namespace Go.Proofs.YtoihipolfdhhnaaGreatDoor

theorem gone11_calls {B : Bd} {w : World} {b : Nat} {m : M} (hm : MOk B w b m) (p has : ByteArray) (deep : Int) (f : FuncId) (c : Array Value) (hk : RepR B w (.goneL p has deep) f c) (r : Res) (a : Option Addr) (n cp : Nat) (hn : StrsAt B w a n cp r.names)
    (he : EOk (.gone p has deep)) (hlen : m.todo.length ≤ 1000000) (hok : okEach r.names (.gone p has deep) (m.push (.goneD p))) :
    Calls Tryz.prog f (#[bp b, resV r a n cp] ++ c) w (Does B b w (runEach r.names (.gone p has deep) (m.push (.goneD p)))) := by
  obtain ⟨rfl, k1, k2, k3, rfl, h1, h2, h3⟩ := hk
  refine enter (B := B) tab_ok [.e (.c (.rp ⟨b, 0, none⟩)), rsX r a n cp, .e (.c (.rp ⟨k1, 0, none⟩)), .e (.c (.rp ⟨k2, 0, none⟩)), .e (.c (.rp ⟨k3, 0, none⟩))] [] [] 40 Tryz.func140 rfl rfl rfl (obs := []) (by kernel_rfl) trivial (fun a1 w1 hc1 => ?_)
  have hr1 := hc1.mem.bs (bs' := [⟨35, r.cs a n cp⟩]) (by kernel_rfl)
  obtain ⟨hm1, he1⟩ := hm.fresh ((Over.env w (sro B w)).rel hc1.mem)
  have hk1 := he1.keep hm
  have hb35 : w1.heap[w.heap.size]? = some (.cells (plainR (r.cs a n cp)) 35 (0, 0)) := by
    have := hr1.cells 0 _ rfl
    rw [map_plain _ rfl] at this
    exact this
  refine gets_evo he1 (gets_does (c := ⟨22, [.c (.rp ⟨b, 0, none⟩), .c (.f 141 [.r ⟨k1, 0, none⟩])], [], #[]⟩) 9 [(0, .e (.c (.rp ⟨b, 0, none⟩))), (2, .e (.c (.rp ⟨k1, 0, none⟩))), (3, .e (.c (.rp ⟨k2, 0, none⟩))), (4, .e (.c (.rp ⟨k3, 0, none⟩))), (6, .e (.c (.rp ⟨w.heap.size, 0, none⟩)))] [] [.e (.c (.sl a n cp))]
    hc1 (by kernel_rfl) (by kernel_rfl) (by kernel_rfl) rfl (push_calls hm1 hlen hm1.le (.goneD p) 141 _ ⟨rfl, k1, rfl, Box.keep h1 hk1⟩) (fun ρ' => ⟨rfl, rfl, rfl, rfl, rfl, trivial⟩) (fun a2 w2 hm2 he2 hc2 => ?_))
  have hk2 := hk1.trans (he2.keep hm1)
  have hb2 := (he2.keep hm1).cells hb35 (by decide) (by decide) (by decide) (hm.notx (Nat.le_refl _))
  refine gets_run tab_ok 40 hc2 (holds_of (obs := [fun ε => ε.ro ((⟨w.heap.size, 0, none⟩ : Addr).add 4) = some (.slice a n cp)]) (by kernel_rfl) ⟨sro_cells hb2 rfl (by decide) (by decide) (by decide) (hm.notx (Nat.le_refl _)) (fun _ => 0) 4 _ rfl, trivial⟩) (fun a3 w3 hc3 => ?_)
  refine gets_evo he2 (gets_last (bs := []) (c := ⟨77, [.c (.rp ⟨b, 0, none⟩), .c (.sl a n cp), .c (.f 143 [.r ⟨k1, 0, none⟩, .r ⟨k2, 0, none⟩, .r ⟨k3, 0, none⟩])], [], #[]⟩) hm2 (Over.env w2 _) hc3 (by kernel_rfl) (by kernel_rfl) (by kernel_rfl) Tryz.func140 rfl (by kernel_rfl) (fun _ hm3 hk3 => ?_))
  have hk4 := hk2.trans hk3
  exact each_calls hm3 r.names a n cp (hn.keep hk4) (.gone p has deep) he 143 _ ⟨rfl, k1, k2, k3, rfl, Box.keep h1 hk4, Box.keep h2 hk4, Box.keep h3 hk4⟩ hok

end Go.Proofs.YtoihipolfdhhnaaGreatDoor

namespace Go.Proofs.YtoihipolfdhhnaaGreatDoor

theorem gone112_calls {B : Bd} {w : World} {b : Nat} {m : M} (hm : MOk B w b m) (p has : ByteArray) (deep : Int) (s : ByteArray) (f : FuncId) (c : Array Value) (hk : RepE B w (.gone p has deep) f c) (hs : m.prog.size + p.size + s.size + 1 ≤ 1152921504606846976) :
    Calls Tryz.prog f (#[bp b, .string s] ++ c) w (Does B b w (m.gone (join p s) has (wrap64 (deep + 1)))) := by
  obtain ⟨rfl, k1, k2, k3, rfl, h1, h2, h3⟩ := hk
  have hj : (join p s).size ≤ p.size + s.size + 1 := by
    have z : (⟨#[47]⟩ : ByteArray).size = 1 := rfl
    unfold join
    split
    · rw [ByteArray.size_append]; omega
    · rw [ByteArray.size_append, ByteArray.size_append, z]; omega
  refine calls_exec [.e (.c (.rp ⟨b, 0, none⟩)), .e (.c (.str s)), .e (.c (.rp ⟨k1, 0, none⟩)), .e (.c (.rp ⟨k2, 0, none⟩)), .e (.c (.rp ⟨k3, 0, none⟩))] [] [] (sro B w) Tryz.func143 rfl rfl rfl (rel_nil w _ (fun _ _ h => (sro_le h).2)) (fun a0 hc0 => ?_)
  have hc1 : CRel (env0 B w) Tryz.f143.ntmps (ini [.e (.c (.rp ⟨b, 0, none⟩)), .e (.c (.str s)), .e (.c (.rp ⟨k1, 0, none⟩)), .e (.c (.rp ⟨k2, 0, none⟩)), .e (.c (.rp ⟨k3, 0, none⟩))] [] []) a0 w := ⟨hc0.tl, hc0.size, hc0.defers, hc0.mem⟩
  refine gets_run tab_ok 20 hc1 (holds_of (obs := []) (by kernel_rfl) trivial) (fun a1 w1 hc2 => ?_)
  replace hc2 := hc2.pickx [(0, .e (.c (.rp ⟨b, 0, none⟩))), (1, .e (.c (.str s))), (2, .e (.c (.rp ⟨k1, 0, none⟩))), (3, .e (.c (.rp ⟨k2, 0, none⟩))), (4, .e (.c (.rp ⟨k3, 0, none⟩)))] [] [] (by kernel_rfl) (by kernel_rfl)
  have hmem : Rel (env0 B w) [] { w1 with drawn := w1.drawn + 1 } := hc2.mem.drew _
  have hN1 := (Over.env w (sro B w)).rel hmem
  refine gets_draw (S := Sees (env0 B w) []) (by kernel_rfl) ?_
  refine dgets_take (fuel := 2) (l' := #[true, true, true, false, true, true, true, false]) tab_ok (by kernel_rfl) hmem.sees [0, 1, 2, 4, 5, 6] _ { tl := [(0, .e (.c (.rp ⟨b, 0, none⟩))), (1, .e (.c (.str s))), (2, .e (.c (.rp ⟨k1, 0, none⟩))), (3, .e (.c (.rp ⟨k2, 0, none⟩))), (4, .e (.c (.rp ⟨k3, 0, none⟩)))], bs := [], ext := [.e (.c (.str p)), .e (.c (.str has)), .e (.c (.int .i64 deep))] } { tl := [(13, .e (.c (.int .i64 (IntKind.i64.wrap (deep + 1))))), (12, .e (.c (.int .i64 deep))), (11, .e (.c (.str has))), (9, .e (.c (.str s))), (8, .e (.c (.str p))), (7, .e (.c (.rp ⟨b, 0, none⟩))), (0, .e (.c (.rp ⟨b, 0, none⟩))), (1, .e (.c (.str s))), (2, .e (.c (.rp ⟨k1, 0, none⟩))), (3, .e (.c (.rp ⟨k2, 0, none⟩))), (4, .e (.c (.rp ⟨k3, 0, none⟩)))], bs := [], ob := [fun ε => ε.ro ⟨k1, 0, none⟩ = some (.string p), fun ε => ε.ro ⟨k2, 0, none⟩ = some (.string has), fun ε => ε.ro ⟨k3, 0, none⟩ = some (.int .i64 deep)] } _ (by kernel_rfl) rfl hc2.tl hc2.size (holds_of rfl ⟨Box.sro h1, Box.sro h2, Box.sro h3, trivial⟩) (fun a3 g1 g2 g3 => ?_)
  refine dgets_pure (nt := Tryz.f143.ntmps) (σ := { tl := [(13, .e (.c (.int .i64 (IntKind.i64.wrap (deep + 1))))), (12, .e (.c (.int .i64 deep))), (11, .e (.c (.str has))), (9, .e (.c (.str s))), (8, .e (.c (.str p))), (7, .e (.c (.rp ⟨b, 0, none⟩))), (0, .e (.c (.rp ⟨b, 0, none⟩))), (1, .e (.c (.str s))), (2, .e (.c (.rp ⟨k1, 0, none⟩))), (3, .e (.c (.rp ⟨k2, 0, none⟩))), (4, .e (.c (.rp ⟨k3, 0, none⟩)))], bs := [] }) (i := 3) (c := ⟨95, [.c (.str p), .c (.str s)], [], #[]⟩) 10 (.e (.c (.str (join p s)))) g1 g2 hmem.sees (by kernel_rfl) (by kernel_rfl) (by kernel_rfl) (by kernel_rfl) (by kernel_rfl) (join_calls (B := B) _ p s (by omega)) (fun a4 w4 g4 g5 g6 hn4 hs4 => ?_)
  obtain ⟨hm4, he4⟩ := hm.fresh (hN1.trans hn4)
  have hfit : m.prog.size + (join p s).size ≤ 1152921504606846976 := by omega
  refine dgets_call (σ := { tl := (10, .e (.c (.str (join p s)))) :: [(13, .e (.c (.int .i64 (IntKind.i64.wrap (deep + 1))))), (12, .e (.c (.int .i64 deep))), (11, .e (.c (.str has))), (9, .e (.c (.str s))), (8, .e (.c (.str p))), (7, .e (.c (.rp ⟨b, 0, none⟩))), (0, .e (.c (.rp ⟨b, 0, none⟩))), (1, .e (.c (.str s))), (2, .e (.c (.rp ⟨k1, 0, none⟩))), (3, .e (.c (.rp ⟨k2, 0, none⟩))), (4, .e (.c (.rp ⟨k3, 0, none⟩)))], bs := [] }) (i := 7) (c := ⟨90, [.c (.rp ⟨b, 0, none⟩), .c (.str (join p s)), .c (.str has), .c (.int .i64 (IntKind.i64.wrap (deep + 1)))], [], #[]⟩) g4 (by kernel_rfl) (by kernel_rfl) (by kernel_rfl)
    (gone_calls hm4 (join p s) has _ hfit) (fun e w5 ⟨q1, q2, q3⟩ => ⟨_, q1, ⟨fun i nb hi => by simp at hi, fun ad v hv => sro_keep (((hN1.trans hn4).keep B).trans (q3.keep hm4)) hv⟩, ?_⟩)
  refine dgets_done 0 (by kernel_rfl) ?_
  exact gets_end0 (by rw [Act.put_defers', g6, g3]; exact hc2.defers) Tryz.func143 rfl (by kernel_rfl) ⟨rfl, q2, he4.trans q3⟩

end Go.Proofs.YtoihipolfdhhnaaGreatDoor

namespace Go.Proofs.YtoihipolfdhhnaaGreatDoor

theorem places1_calls {B : Bd} {w : World} {b : Nat} {m : M} (hm : MOk B w b m) (l : List ByteArray) (a : Option Addr) (n cp : Nat) (hl : StrsAt B w a n cp l) (hlen : l.length ≤ 1000000) (br : Bring) (k : Nat) (bf : FuncId) (bc : Array Value) (h1 : Box B w k 81 (.func (.func bf) #[] bc)) (h2 : RepB B w br bf bc)
    (hs : m.prog.size ≤ 1152921504606846976) : Calls Tryz.prog 91 #[bp b, .slice a n cp, bp k] w (Does B b w (runPlaces l br m)) := by
  have hn := hl.len
  have hw : IntKind.i64.wrap ((n : Int) - 1) = (n : Int) - 1 := by
    simp only [IntKind.wrap, IntKind.bits, IntKind.signed]
    simp
    omega
  unfold runPlaces
  by_cases h : l.length < 2
  · rw [if_pos h]
    have o1 : decide (IntKind.i64.wrap ((n : Int) - 1) < 1) = true := by rw [hw]; simp; omega
    refine does_tail [.e (.c (.rp ⟨b, 0, none⟩)), .e (.c (.sl a n cp)), .e (.c (.rp ⟨k, 0, none⟩))] [true] [] 60 [⟨22, [.sl a n cp]⟩, ⟨3, [.int .i64 (IntKind.wrap IntKind.i64 ((↑n : Int) - (1 : Int)))]⟩] ⟨84, [.c (.rp ⟨b, 0, none⟩)], [], (#[])⟩ (obs := [fun _ => decide (IntKind.wrap IntKind.i64 ((↑n : Int) - (1 : Int)) < (1 : Int)) = true]) hm Tryz.func91 rfl rfl rfl (by kernel_rfl) (by kernel_rfl) (by kernel_rfl) (by kernel_rfl) rfl (by kernel_rfl) ⟨o1, trivial⟩ (fun w1 hr1 hm1 hk1 => ?_)
    exact wrong_calls hm1 hs
  · rw [if_neg h]
    have o1 : decide (IntKind.i64.wrap ((n : Int) - 1) < 1) = false := by rw [hw]; simp; omega
    have hlast : l[l.length - 1]? = some (lastOf l) := by
      unfold lastOf
      rw [List.getD_eq_getElem?_getD]
      have : l.length - 1 < l.length := by omega
      rw [List.getElem?_eq_getElem this]; rfl
    obtain ⟨ad, rfl, g1, g2⟩ := hl.at_ (l.length - 1) _ hlast
    have hb : 0 ≤ IntKind.i64.wrap ((n : Int) - 1) ∧ IntKind.i64.wrap ((n : Int) - 1) < (n : Int) := by rw [hw]; omega
    have hS : sro B w (ad.add ((IntKind.i64.wrap ((n : Int) - 1)).toNat * 1)) = some (.string (lastOf l)) := by
      have : (IntKind.i64.wrap ((n : Int) - 1)).toNat * 1 = l.length - 1 := by rw [hw]; omega
      rw [this]
      exact sro_of (by rw [addr_add_block]; exact g2) g1
    refine does_tail [.e (.c (.rp ⟨b, 0, none⟩)), .e (.c (.sl (some ad) n cp)), .e (.c (.rp ⟨k, 0, none⟩))] [false] [.e (.c (.str (lastOf l)))] 60 [⟨22, [.sl (some ad) n cp]⟩, ⟨3, [.int .i64 (IntKind.wrap IntKind.i64 ((↑n : Int) - (1 : Int)))]⟩, ⟨9, [.str (lastOf l)]⟩] ⟨69, [.c (.rp ⟨b, 0, none⟩), .a [.int .i64 8, .str (lastOf l), .str ⟨#[]⟩, .str ⟨#[]⟩, .int .i64 0, .int .i64 0, .int .i64 0, .int .i64 0, .int .i64 0, .int .i64 0, .int .i64 0, .bool false, .bool false, .bool false, .bool false, .int .i64 0, .bool false, .bool false, .sl (none) 0 0, .sl (none) 0 0], .c (.f 92 [.n 1 0, .n 0 0, .n 2 0, .r ⟨k, 0, none⟩])], [], (#[])⟩ (obs := [fun _ => decide (IntKind.wrap IntKind.i64 ((↑n : Int) - (1 : Int)) < (1 : Int)) = false, fun _ => (0 : Int) ≤ IntKind.wrap IntKind.i64 ((↑n : Int) - (1 : Int)) ∧ IntKind.wrap IntKind.i64 ((↑n : Int) - (1 : Int)) < (↑n : Int), fun ε => Env.ro ε (Addr.add ad (Int.toNat (IntKind.wrap IntKind.i64 ((↑n : Int) - (1 : Int))) * (1 : Nat))) = some (Value.string (lastOf l))]) hm Tryz.func91 rfl rfl rfl (by kernel_rfl) (by kernel_rfl) (by kernel_rfl) (by kernel_rfl) rfl (by kernel_rfl) ⟨o1, hb, hS, trivial⟩ (fun w1 hr1 hm1 hk1 => ?_)
    have h3 : IntBox B w1 (w.heap.size + 1) (IntKind.i64.wrap ((n : Int) - 1)) := box_of hm.xs hr1 (i := 1) rfl rfl rfl
    rw [hw, show (n : Int) - 1 = (l.length : Int) - 1 by omega] at h3
    exact sys_calls hm1 { op := 8, path := lastOf l } (.places l ((l.length : Int) - 1) (lastOf l) br) 92 _ ⟨rfl, w.heap.size + 1, w.heap.size, w.heap.size + 2, k, bf, bc, rfl, h3, ⟨some ad, n, cp, box_of hm.xs hr1 (i := 0) rfl rfl rfl, hl.keep hk1⟩, box_of hm.xs hr1 (i := 2) rfl rfl rfl, h1.keep hk1, h2.keep hk1⟩

theorem StrsAt.take {B : Bd} {w : World} {a : Option Addr} {n c : Nat} {l : List ByteArray} (h : StrsAt B w a n c l) (k : Nat) (hk : k ≤ n) : StrsAt B w a k c (l.take k) :=
  ⟨by have := h.len; rw [List.length_take]; omega, by have := h.cap; omega, fun j s hj => h.at_ j s (by
    have hjl := (List.getElem?_eq_some_iff.1 hj).1
    rw [List.length_take] at hjl
    rw [List.getElem?_take_of_lt (by omega)] at hj
    exact hj)⟩

theorem map_add0 (x : Nat) (a : Option Addr) : (if x = 0 then a else a.map (·.add (0 * 1))) = a := by
  split
  · rfl
  · cases a with
    | none => rfl
    | some x => simp [Addr.add]

theorem places11_calls {B : Bd} {w : World} {b : Nat} {m : M} (hm : MOk B w b m) (l : List ByteArray) (last : Int) (pl : ByteArray) (br : Bring) (f : FuncId) (c : Array Value) (hk : RepR B w (.places l last pl br) f c) (r : Res) (a : Option Addr) (n cp : Nat)
    (h0 : 0 ≤ last ∧ last ≤ l.length) (hs : m.prog.size ≤ 1152921504606846976) (he : ∀ d, EOk (.place pl d br)) (hok : (last > 1 ∧ isDir r = false) ∨ okEach (l.take last.toNat) (.place pl (isDir r) br) m) :
    Calls Tryz.prog f (#[bp b, resV r a n cp] ++ c) w (Does B b w (runPlace l last pl br r m)) := by
  obtain ⟨rfl, k1, k2, k3, k4, bf, bc, rfl, h1, ⟨a2, n2, c2, h2, h3⟩, h4, h5, h6⟩ := hk
  have hn := h3.len
  have hcp := h3.cap
  unfold runPlace
  have hend : ∀ (d : Bool) (w1 : World), isDir r = d → ¬ (last > 1 ∧ isDir r = false) → ∀ kd : Nat, Box B w1 kd 4 (.bool d) → MOk B w1 b m → Keep B w w1 → Calls Tryz.prog 77 #[bp b, .slice a2 last.toNat c2, .func (.func 93) #[] #[bp k3, bp kd, bp k4]] w1 (Does B b w1 (runEach (l.take last.toNat) (.place pl (isDir r) br) m)) := by
    intro d w1 hd hneg kd hb hm1 hk1
    rw [hd]
    refine each_calls hm1 (l.take last.toNat) a2 last.toNat c2 ((h3.keep hk1).take _ (by omega)) (.place pl d br) (he d) 93 _ ⟨rfl, k3, kd, k4, bf, bc, rfl, h4.keep hk1, hb, h5.keep hk1, h6.keep hk1⟩ ?_
    rcases hok with hok | hok
    · exact absurd hok hneg
    · rw [hd] at hok; exact hok
  by_cases e0 : r.err = 0
  · have o0 : (r.err == 0) = true := by simp [e0]
    by_cases e1 : r.info.kind = 1
    · have o1 : (r.info.kind == 1) = true := by simp [e1]
      have hd : isDir r = true := by simp [isDir, e0, e1]
      by_cases e2 : last > 1
      · have o2 : decide (last > 1) = true := by simp [e2]
        rw [if_neg (by simp [hd]; try omega)]
        refine does_tail [.e (.c (.rp ⟨b, 0, none⟩)), rsX r a n cp, .e (.c (.rp ⟨k1, 0, none⟩)), .e (.c (.rp ⟨k2, 0, none⟩)), .e (.c (.rp ⟨k3, 0, none⟩)), .e (.c (.rp ⟨k4, 0, none⟩))] [true, true, true] [.e (.c (.int .i64 last)), .e (.c (.sl a2 n2 c2)), .e (.c (.int .i64 last))] 90 [⟨35, [.int .i64 (Res.err r), .int .i64 (Res.n r), .int .i64 (Res.m r), .str (Res.text r), .sl a n cp, .int .i64 (InfoD.ino (Res.info r)), .int .i64 (InfoD.kind (Res.info r)), .int .i64 (InfoD.mode (Res.info r)), .int .i64 (InfoD.owner (Res.info r)), .int .i64 (InfoD.group (Res.info r)), .int .i64 (InfoD.links (Res.info r)), .int .i64 (InfoD.size (Res.info r)), .int .i64 (InfoD.tty (Res.info r)), .int .i64 (Res.may r), .int .i64 (CredD.real_ (Res.cred r)), .int .i64 (CredD.eff (Res.cred r)), .int .i64 (CredD.saved (Res.cred r)), .int .i64 (CredD.group (Res.cred r)), .int .i64 (CredD.effGroup (Res.cred r))]⟩, ⟨4, [.bool true]⟩] ⟨77, [.c (.rp ⟨b, 0, none⟩), .c (.sl (if c2 = loOf none then a2 else Option.map (fun (x : Addr) => Addr.add x (loOf none * (1 : Nat))) a2) (hiOf (some last) n2 - loOf none) (c2 - loOf none)), .c (.f 93 [.r ⟨k3, 0, none⟩, .n 1 0, .r ⟨k4, 0, none⟩])], [], (#[])⟩ (obs := [fun _ => (Res.err r == (0 : Int)) = true, fun _ => (InfoD.kind (Res.info r) == (1 : Int)) = true, fun ε => Env.ro ε { block := k1, off := (0 : Nat) } = some (Value.int IntKind.i64 last), fun _ => decide (last > (1 : Int)) = true, fun ε => Env.ro ε { block := k2, off := (0 : Nat) } = some (Value.slice a2 n2 c2), fun ε => Env.ro ε { block := k1, off := (0 : Nat) } = some (Value.int IntKind.i64 last), fun _ => ((0 : Int) ≤ last ∧ last ≤ (↑c2 : Int)) ∧ True]) hm Tryz.func92 rfl rfl rfl (by kernel_rfl) (by kernel_rfl) (by kernel_rfl) (by kernel_rfl) rfl (by kernel_rfl) ⟨o0, o1, (Box.sro h1), o2, (Box.sro h2), (Box.sro h1), (by simp; omega), trivial⟩ (fun w1 hr1 hm1 hk1 => ?_)
        show Calls Tryz.prog 77 #[bp b, .slice (if c2 = 0 then a2 else a2.map (·.add (0 * 1))) last.toNat c2, .func (.func 93) #[] #[bp k3, bp (w.heap.size + 1), bp k4]] w1 _
        rw [map_add0]
        exact hend true w1 hd (by simp [hd]; try omega) (w.heap.size + 1) (box_of hm.xs hr1 (i := 1) rfl rfl rfl) hm1 hk1

      · have o2 : decide (last > 1) = false := by simp; omega
        rw [if_neg (by simp [hd]; try omega)]
        refine does_tail [.e (.c (.rp ⟨b, 0, none⟩)), rsX r a n cp, .e (.c (.rp ⟨k1, 0, none⟩)), .e (.c (.rp ⟨k2, 0, none⟩)), .e (.c (.rp ⟨k3, 0, none⟩)), .e (.c (.rp ⟨k4, 0, none⟩))] [true, true, false] [.e (.c (.int .i64 last)), .e (.c (.sl a2 n2 c2)), .e (.c (.int .i64 last))] 90 [⟨35, [.int .i64 (Res.err r), .int .i64 (Res.n r), .int .i64 (Res.m r), .str (Res.text r), .sl a n cp, .int .i64 (InfoD.ino (Res.info r)), .int .i64 (InfoD.kind (Res.info r)), .int .i64 (InfoD.mode (Res.info r)), .int .i64 (InfoD.owner (Res.info r)), .int .i64 (InfoD.group (Res.info r)), .int .i64 (InfoD.links (Res.info r)), .int .i64 (InfoD.size (Res.info r)), .int .i64 (InfoD.tty (Res.info r)), .int .i64 (Res.may r), .int .i64 (CredD.real_ (Res.cred r)), .int .i64 (CredD.eff (Res.cred r)), .int .i64 (CredD.saved (Res.cred r)), .int .i64 (CredD.group (Res.cred r)), .int .i64 (CredD.effGroup (Res.cred r))]⟩, ⟨4, [.bool true]⟩] ⟨77, [.c (.rp ⟨b, 0, none⟩), .c (.sl (if c2 = loOf none then a2 else Option.map (fun (x : Addr) => Addr.add x (loOf none * (1 : Nat))) a2) (hiOf (some last) n2 - loOf none) (c2 - loOf none)), .c (.f 93 [.r ⟨k3, 0, none⟩, .n 1 0, .r ⟨k4, 0, none⟩])], [], (#[])⟩ (obs := [fun _ => (Res.err r == (0 : Int)) = true, fun _ => (InfoD.kind (Res.info r) == (1 : Int)) = true, fun ε => Env.ro ε { block := k1, off := (0 : Nat) } = some (Value.int IntKind.i64 last), fun _ => decide (last > (1 : Int)) = false, fun ε => Env.ro ε { block := k2, off := (0 : Nat) } = some (Value.slice a2 n2 c2), fun ε => Env.ro ε { block := k1, off := (0 : Nat) } = some (Value.int IntKind.i64 last), fun _ => ((0 : Int) ≤ last ∧ last ≤ (↑c2 : Int)) ∧ True]) hm Tryz.func92 rfl rfl rfl (by kernel_rfl) (by kernel_rfl) (by kernel_rfl) (by kernel_rfl) rfl (by kernel_rfl) ⟨o0, o1, (Box.sro h1), o2, (Box.sro h2), (Box.sro h1), (by simp; omega), trivial⟩ (fun w1 hr1 hm1 hk1 => ?_)
        show Calls Tryz.prog 77 #[bp b, .slice (if c2 = 0 then a2 else a2.map (·.add (0 * 1))) last.toNat c2, .func (.func 93) #[] #[bp k3, bp (w.heap.size + 1), bp k4]] w1 _
        rw [map_add0]
        exact hend true w1 hd (by simp [hd]; try omega) (w.heap.size + 1) (box_of hm.xs hr1 (i := 1) rfl rfl rfl) hm1 hk1

    · have o1 : (r.info.kind == 1) = false := by simp [e1]
      have hd : isDir r = false := by simp [isDir, e1]
      by_cases e2 : last > 1
      · have o2 : decide (last > 1) = true := by simp [e2]
        rw [if_pos ⟨e2, hd⟩]
        refine does_tail [.e (.c (.rp ⟨b, 0, none⟩)), rsX r a n cp, .e (.c (.rp ⟨k1, 0, none⟩)), .e (.c (.rp ⟨k2, 0, none⟩)), .e (.c (.rp ⟨k3, 0, none⟩)), .e (.c (.rp ⟨k4, 0, none⟩))] [true, false, true] [.e (.c (.int .i64 last))] 90 [⟨35, [.int .i64 (Res.err r), .int .i64 (Res.n r), .int .i64 (Res.m r), .str (Res.text r), .sl a n cp, .int .i64 (InfoD.ino (Res.info r)), .int .i64 (InfoD.kind (Res.info r)), .int .i64 (InfoD.mode (Res.info r)), .int .i64 (InfoD.owner (Res.info r)), .int .i64 (InfoD.group (Res.info r)), .int .i64 (InfoD.links (Res.info r)), .int .i64 (InfoD.size (Res.info r)), .int .i64 (InfoD.tty (Res.info r)), .int .i64 (Res.may r), .int .i64 (CredD.real_ (Res.cred r)), .int .i64 (CredD.eff (Res.cred r)), .int .i64 (CredD.saved (Res.cred r)), .int .i64 (CredD.group (Res.cred r)), .int .i64 (CredD.effGroup (Res.cred r))]⟩, ⟨4, [.bool false]⟩] ⟨84, [.c (.rp ⟨b, 0, none⟩)], [], (#[])⟩ (obs := [fun _ => (Res.err r == (0 : Int)) = true, fun _ => (InfoD.kind (Res.info r) == (1 : Int)) = false, fun ε => Env.ro ε { block := k1, off := (0 : Nat) } = some (Value.int IntKind.i64 last), fun _ => decide (last > (1 : Int)) = true]) hm Tryz.func92 rfl rfl rfl (by kernel_rfl) (by kernel_rfl) (by kernel_rfl) (by kernel_rfl) rfl (by kernel_rfl) ⟨o0, o1, (Box.sro h1), o2, trivial⟩ (fun w1 hr1 hm1 hk1 => ?_)
        exact wrong_calls hm1 hs
      · have o2 : decide (last > 1) = false := by simp; omega
        rw [if_neg (by simp [hd]; try omega)]
        refine does_tail [.e (.c (.rp ⟨b, 0, none⟩)), rsX r a n cp, .e (.c (.rp ⟨k1, 0, none⟩)), .e (.c (.rp ⟨k2, 0, none⟩)), .e (.c (.rp ⟨k3, 0, none⟩)), .e (.c (.rp ⟨k4, 0, none⟩))] [true, false, false] [.e (.c (.int .i64 last)), .e (.c (.sl a2 n2 c2)), .e (.c (.int .i64 last))] 90 [⟨35, [.int .i64 (Res.err r), .int .i64 (Res.n r), .int .i64 (Res.m r), .str (Res.text r), .sl a n cp, .int .i64 (InfoD.ino (Res.info r)), .int .i64 (InfoD.kind (Res.info r)), .int .i64 (InfoD.mode (Res.info r)), .int .i64 (InfoD.owner (Res.info r)), .int .i64 (InfoD.group (Res.info r)), .int .i64 (InfoD.links (Res.info r)), .int .i64 (InfoD.size (Res.info r)), .int .i64 (InfoD.tty (Res.info r)), .int .i64 (Res.may r), .int .i64 (CredD.real_ (Res.cred r)), .int .i64 (CredD.eff (Res.cred r)), .int .i64 (CredD.saved (Res.cred r)), .int .i64 (CredD.group (Res.cred r)), .int .i64 (CredD.effGroup (Res.cred r))]⟩, ⟨4, [.bool false]⟩] ⟨77, [.c (.rp ⟨b, 0, none⟩), .c (.sl (if c2 = loOf none then a2 else Option.map (fun (x : Addr) => Addr.add x (loOf none * (1 : Nat))) a2) (hiOf (some last) n2 - loOf none) (c2 - loOf none)), .c (.f 93 [.r ⟨k3, 0, none⟩, .n 1 0, .r ⟨k4, 0, none⟩])], [], (#[])⟩ (obs := [fun _ => (Res.err r == (0 : Int)) = true, fun _ => (InfoD.kind (Res.info r) == (1 : Int)) = false, fun ε => Env.ro ε { block := k1, off := (0 : Nat) } = some (Value.int IntKind.i64 last), fun _ => decide (last > (1 : Int)) = false, fun ε => Env.ro ε { block := k2, off := (0 : Nat) } = some (Value.slice a2 n2 c2), fun ε => Env.ro ε { block := k1, off := (0 : Nat) } = some (Value.int IntKind.i64 last), fun _ => ((0 : Int) ≤ last ∧ last ≤ (↑c2 : Int)) ∧ True]) hm Tryz.func92 rfl rfl rfl (by kernel_rfl) (by kernel_rfl) (by kernel_rfl) (by kernel_rfl) rfl (by kernel_rfl) ⟨o0, o1, (Box.sro h1), o2, (Box.sro h2), (Box.sro h1), (by simp; omega), trivial⟩ (fun w1 hr1 hm1 hk1 => ?_)
        show Calls Tryz.prog 77 #[bp b, .slice (if c2 = 0 then a2 else a2.map (·.add (0 * 1))) last.toNat c2, .func (.func 93) #[] #[bp k3, bp (w.heap.size + 1), bp k4]] w1 _
        rw [map_add0]
        exact hend false w1 hd (by simp [hd]; try omega) (w.heap.size + 1) (box_of hm.xs hr1 (i := 1) rfl rfl rfl) hm1 hk1

  · have o0 : (r.err == 0) = false := by simp [e0]
    have hd : isDir r = false := by simp [isDir, e0]
    by_cases e2 : last > 1
    · have o2 : decide (last > 1) = true := by simp [e2]
      rw [if_pos ⟨e2, hd⟩]
      refine does_tail [.e (.c (.rp ⟨b, 0, none⟩)), rsX r a n cp, .e (.c (.rp ⟨k1, 0, none⟩)), .e (.c (.rp ⟨k2, 0, none⟩)), .e (.c (.rp ⟨k3, 0, none⟩)), .e (.c (.rp ⟨k4, 0, none⟩))] [false, true] [.e (.c (.int .i64 last))] 90 [⟨35, [.int .i64 (Res.err r), .int .i64 (Res.n r), .int .i64 (Res.m r), .str (Res.text r), .sl a n cp, .int .i64 (InfoD.ino (Res.info r)), .int .i64 (InfoD.kind (Res.info r)), .int .i64 (InfoD.mode (Res.info r)), .int .i64 (InfoD.owner (Res.info r)), .int .i64 (InfoD.group (Res.info r)), .int .i64 (InfoD.links (Res.info r)), .int .i64 (InfoD.size (Res.info r)), .int .i64 (InfoD.tty (Res.info r)), .int .i64 (Res.may r), .int .i64 (CredD.real_ (Res.cred r)), .int .i64 (CredD.eff (Res.cred r)), .int .i64 (CredD.saved (Res.cred r)), .int .i64 (CredD.group (Res.cred r)), .int .i64 (CredD.effGroup (Res.cred r))]⟩, ⟨4, [.bool false]⟩] ⟨84, [.c (.rp ⟨b, 0, none⟩)], [], (#[])⟩ (obs := [fun _ => (Res.err r == (0 : Int)) = false, fun ε => Env.ro ε { block := k1, off := (0 : Nat) } = some (Value.int IntKind.i64 last), fun _ => decide (last > (1 : Int)) = true]) hm Tryz.func92 rfl rfl rfl (by kernel_rfl) (by kernel_rfl) (by kernel_rfl) (by kernel_rfl) rfl (by kernel_rfl) ⟨o0, (Box.sro h1), o2, trivial⟩ (fun w1 hr1 hm1 hk1 => ?_)
      exact wrong_calls hm1 hs
    · have o2 : decide (last > 1) = false := by simp; omega
      rw [if_neg (by simp [hd]; try omega)]
      refine does_tail [.e (.c (.rp ⟨b, 0, none⟩)), rsX r a n cp, .e (.c (.rp ⟨k1, 0, none⟩)), .e (.c (.rp ⟨k2, 0, none⟩)), .e (.c (.rp ⟨k3, 0, none⟩)), .e (.c (.rp ⟨k4, 0, none⟩))] [false, false] [.e (.c (.int .i64 last)), .e (.c (.sl a2 n2 c2)), .e (.c (.int .i64 last))] 90 [⟨35, [.int .i64 (Res.err r), .int .i64 (Res.n r), .int .i64 (Res.m r), .str (Res.text r), .sl a n cp, .int .i64 (InfoD.ino (Res.info r)), .int .i64 (InfoD.kind (Res.info r)), .int .i64 (InfoD.mode (Res.info r)), .int .i64 (InfoD.owner (Res.info r)), .int .i64 (InfoD.group (Res.info r)), .int .i64 (InfoD.links (Res.info r)), .int .i64 (InfoD.size (Res.info r)), .int .i64 (InfoD.tty (Res.info r)), .int .i64 (Res.may r), .int .i64 (CredD.real_ (Res.cred r)), .int .i64 (CredD.eff (Res.cred r)), .int .i64 (CredD.saved (Res.cred r)), .int .i64 (CredD.group (Res.cred r)), .int .i64 (CredD.effGroup (Res.cred r))]⟩, ⟨4, [.bool false]⟩] ⟨77, [.c (.rp ⟨b, 0, none⟩), .c (.sl (if c2 = loOf none then a2 else Option.map (fun (x : Addr) => Addr.add x (loOf none * (1 : Nat))) a2) (hiOf (some last) n2 - loOf none) (c2 - loOf none)), .c (.f 93 [.r ⟨k3, 0, none⟩, .n 1 0, .r ⟨k4, 0, none⟩])], [], (#[])⟩ (obs := [fun _ => (Res.err r == (0 : Int)) = false, fun ε => Env.ro ε { block := k1, off := (0 : Nat) } = some (Value.int IntKind.i64 last), fun _ => decide (last > (1 : Int)) = false, fun ε => Env.ro ε { block := k2, off := (0 : Nat) } = some (Value.slice a2 n2 c2), fun ε => Env.ro ε { block := k1, off := (0 : Nat) } = some (Value.int IntKind.i64 last), fun _ => ((0 : Int) ≤ last ∧ last ≤ (↑c2 : Int)) ∧ True]) hm Tryz.func92 rfl rfl rfl (by kernel_rfl) (by kernel_rfl) (by kernel_rfl) (by kernel_rfl) rfl (by kernel_rfl) ⟨o0, (Box.sro h1), o2, (Box.sro h2), (Box.sro h1), (by simp; omega), trivial⟩ (fun w1 hr1 hm1 hk1 => ?_)
      show Calls Tryz.prog 77 #[bp b, .slice (if c2 = 0 then a2 else a2.map (·.add (0 * 1))) last.toNat c2, .func (.func 93) #[] #[bp k3, bp (w.heap.size + 1), bp k4]] w1 _
      rw [map_add0]
      exact hend false w1 hd (by simp [hd]; try omega) (w.heap.size + 1) (box_of hm.xs hr1 (i := 1) rfl rfl rfl) hm1 hk1

/-- places$1$1$1, where the place is no directory. -/
theorem place0_word {B : Bd} {w : World} {b : Nat} {m m' : M} (hm : MOk B w b m) (pl : ByteArray) (br : Bring) (s : ByteArray) (f : FuncId) (c : Array Value) (hk : RepE B w (.place pl false br) f c)
    (hb : ∀ w' bf bc, Keep B w w' → MOk B w' b m → RepB B w' br bf bc → Calls Tryz.prog bf (#[bp b, .string s, .string pl] ++ bc) w' (Does B b w' m')) : Calls Tryz.prog f (#[bp b, .string s] ++ c) w (Does B b w m') := by
  obtain ⟨rfl, k1, k2, k3, bf, bc, rfl, h1, h2, h3, h4⟩ := hk
  refine does_tail [.e (.c (.rp ⟨b, 0, none⟩)), .e (.c (.str s)), .e (.c (.rp ⟨k1, 0, none⟩)), .e (.c (.rp ⟨k2, 0, none⟩)), .e (.c (.rp ⟨k3, 0, none⟩))] [] [.e (.c (.str pl)), .e (.c (.bool false)), .e (.c (.fv bf bc))] 60 [] ⟨bf, [.c (.rp ⟨b, 0, none⟩), .c (.str s), .c (.str pl)], [], bc⟩ (obs := [fun ε => Env.ro ε { block := k1, off := (0 : Nat) } = some (Value.string pl), fun ε => Env.ro ε { block := k2, off := (0 : Nat) } = some (Value.bool false), fun ε => Env.ro ε { block := k3, off := (0 : Nat) } = some (Value.func (Fn.func bf) #[] bc)]) hm Tryz.func93 rfl rfl rfl (by kernel_rfl) (by kernel_rfl) (by kernel_rfl) (by kernel_rfl) rfl h4.enters ⟨(Box.sro h1), (Box.sro h2), (Box.sro h3), trivial⟩ (fun w1 hr1 hm1 hk1 => ?_)
  rw [callX_fv]
  exact hb w1 bf bc hk1 hm1 (h4.keep hk1)

end Go.Proofs.YtoihipolfdhhnaaGreatDoor

namespace Go.Proofs.YtoihipolfdhhnaaGreatDoor

theorem intsAt_new {B : Bd} {ε : Env} {bs : List NB} {w : World} (h : Rel ε bs w) (i : Nat) (l : List Int) (hi : bs[i]? = some ⟨3, l.map (.int .i64)⟩) (hx : ε.ρ i ∉ B.x) : IntsAt B w (some ⟨ε.ρ i, 0, none⟩) l.length l.length l := by
  have hc := h.cells i _ hi
  refine ⟨rfl, Nat.le_refl _, fun j s hj => ⟨_, rfl, ?_, .inr ⟨_, _, _, hc, by show (3 : Nat) ≠ 66; decide, by show (3 : Nat) ≠ 84; decide, by show (3 : Nat) ≠ 39; decide, hx⟩⟩⟩
  rw [addr_add]
  simp [World.cell?, hc, hj, C.real]

theorem copied3_calls {B : Bd} {w : World} {b : Nat} {m : M} (hm : MOk B w b m) (dst : ByteArray) (ra : Res) (f : FuncId) (c : Array Value) (hk : RepR B w (.copies3 dst ra) f c) (r : Res) (a : Option Addr) (n cp : Nat) (hs : m.prog.size + dst.size ≤ 1152921504606846976) (hl : m.todo.length ≤ 1000000) :
    Calls Tryz.prog f (#[bp b, resV r a n cp] ++ c) w (Does B b w (m.copied3 dst ra r)) := by
  obtain ⟨rfl, k1, k2, rfl, ⟨a1', n1', c1', h1, h1n, hx⟩, h2⟩ := hk
  have hN : sro B w ((⟨k1, 0, none⟩ : Addr).add 1) = some (.int .i64 ra.n) := sro_cells h1 rfl (by decide) (by decide) (by decide) hx (fun _ => 0) 1 _ rfl
  unfold M.copied3
  by_cases e0 : r.err = 0
  · rw [if_neg (by simp [e0])]
    have o0 : (r.err != 0) = false := by simp [e0]
    refine enter (B := B) tab_ok [.e (.c (.rp ⟨b, 0, none⟩)), rsX r a n cp, .e (.c (.rp ⟨k1, 0, none⟩)), .e (.c (.rp ⟨k2, 0, none⟩))] [] [] 0 Tryz.func101 rfl rfl rfl (obs := []) (by kernel_rfl) trivial (fun a1 w1 hc1 => ?_)
    refine gets_run tab_ok 60 (hc1.feed [false] []) (holds_of (obs := [fun _ => (Res.err r != (0 : Int)) = false]) (by kernel_rfl) ⟨o0, trivial⟩) (fun a2 w2 hc2 => ?_)
    replace hc2 := hc2.pickx [(0, .e (.c (.rp ⟨b, 0, none⟩))), (2, .e (.c (.rp ⟨k1, 0, none⟩))), (5, .e (.c (.p 0 0)))] [⟨35, [.int .i64 (Res.err r), .int .i64 (Res.n r), .int .i64 (Res.m r), .str (Res.text r), .sl a n cp, .int .i64 (InfoD.ino (Res.info r)), .int .i64 (InfoD.kind (Res.info r)), .int .i64 (InfoD.mode (Res.info r)), .int .i64 (InfoD.owner (Res.info r)), .int .i64 (InfoD.group (Res.info r)), .int .i64 (InfoD.links (Res.info r)), .int .i64 (InfoD.size (Res.info r)), .int .i64 (InfoD.tty (Res.info r)), .int .i64 (Res.may r), .int .i64 (CredD.real_ (Res.cred r)), .int .i64 (CredD.eff (Res.cred r)), .int .i64 (CredD.saved (Res.cred r)), .int .i64 (CredD.group (Res.cred r)), .int .i64 (CredD.effGroup (Res.cred r))]⟩] [] (by kernel_rfl) (by kernel_rfl)
    replace hc2 := hc2.pick [(0, .e (.c (.rp ⟨b, 0, none⟩))), (2, .e (.c (.rp ⟨k1, 0, none⟩))), (5, .e (.c (.p 0 0)))] [⟨35, r.cs a n cp⟩] (by kernel_rfl) (by kernel_rfl)
    have hmem : Rel (env0 B w) [⟨35, r.cs a n cp⟩] { w2 with drawn := w2.drawn + 1 } := hc2.mem.drew _
    refine gets_draw (S := Sees (env0 B w) [⟨35, r.cs a n cp⟩]) (by kernel_rfl) ?_
    refine dgets_take (fuel := 3) (l' := #[true, true, true, true, true, true, true, true, true, false, false, false]) tab_ok (by kernel_rfl) hmem.sees [0, 1, 2, 3, 4, 5, 6, 7, 8] _ { tl := [(0, .e (.c (.rp ⟨b, 0, none⟩))), (2, .e (.c (.rp ⟨k1, 0, none⟩))), (5, .e (.c (.p 0 0)))], bs := [⟨35, r.cs a n cp⟩], ext := [.e (.c (.int .i64 ra.n)), .e (.c (.int .i64 ra.n))] }
      { tl := [(28, .e (.c (.int .i64 r.n))), (27, .e (.c (.p 0 1))), (26, .e (.c (.int .i64 ra.n))), (25, .e (.c (.rp ((⟨k1, 0, none⟩ : Addr).add 1)))), (24, .e (.c (.int .i64 r.n))), (23, .e (.c (.p 0 1))), (22, .e (.c (.int .i64 ra.n))), (21, .e (.c (.rp ((⟨k1, 0, none⟩ : Addr).add 1)))), (20, .e (.c (.rp ⟨b, 0, none⟩))), (0, .e (.c (.rp ⟨b, 0, none⟩))), (2, .e (.c (.rp ⟨k1, 0, none⟩))), (5, .e (.c (.p 0 0)))], bs := [⟨35, r.cs a n cp⟩], ob := [fun ε => ε.ro ((⟨k1, 0, none⟩ : Addr).add 1) = some (.int .i64 ra.n), fun ε => ε.ro ((⟨k1, 0, none⟩ : Addr).add 1) = some (.int .i64 ra.n)] } _ (by kernel_rfl) rfl hc2.tl hc2.size (holds_of rfl ⟨hN, hN, trivial⟩) (fun a3 h5 h6 h7 => ?_)
    have hc3 : CRel (env0 B w) Tryz.f101.ntmps { tl := [(28, .e (.c (.int .i64 r.n))), (26, .e (.c (.int .i64 ra.n))), (24, .e (.c (.int .i64 r.n))), (22, .e (.c (.int .i64 ra.n))), (20, .e (.c (.rp ⟨b, 0, none⟩)))], bs := [⟨35, r.cs a n cp⟩] } a3 { w2 with drawn := w2.drawn + 1 } := (⟨h5, h6, h7.trans hc2.defers, hmem⟩ : CRel (env0 B w) Tryz.f101.ntmps _ a3 { w2 with drawn := w2.drawn + 1 }).pick _ _ (by kernel_rfl) rfl
    refine dgets_op (i := 9) (r := some (.e (.c (.nsl 1 0 2 2)))) (σ1 := { tl := [(28, .e (.c (.int .i64 r.n))), (26, .e (.c (.int .i64 ra.n))), (24, .e (.c (.int .i64 r.n))), (22, .e (.c (.int .i64 ra.n))), (20, .e (.c (.rp ⟨b, 0, none⟩)))], bs := [⟨35, r.cs a n cp⟩, ⟨3, [.int .i64 ra.n, .int .i64 r.n]⟩] })
      (σ2 := { tl := [(29, .e (.c (.nsl 1 0 2 2))), (28, .e (.c (.int .i64 r.n))), (26, .e (.c (.int .i64 ra.n))), (24, .e (.c (.int .i64 r.n))), (22, .e (.c (.int .i64 ra.n))), (20, .e (.c (.rp ⟨b, 0, none⟩)))], bs := [⟨35, r.cs a n cp⟩, ⟨3, [.int .i64 ra.n, .int .i64 r.n]⟩] }) tab_ok hc3 (by kernel_rfl) rfl (by kernel_rfl) (by kernel_rfl) (by kernel_rfl) (fun p hp => by cases hp)
      (fun a4 w4 hc4 => ⟨Sees.first (bs' := [⟨3, [.int .i64 ra.n, .int .i64 r.n]⟩]) hc4.mem.sees, ?_⟩)
    have hn4 := (Over.env w _).rel hc4.mem
    have hints : IntsAt B w4 (some ⟨w.heap.size + 1, 0, none⟩) 2 2 [ra.n, r.n] := intsAt_new hc4.mem 1 [ra.n, r.n] rfl (hm.notx (Nat.le_add_right _ _))
    refine dgets_call (i := 10) (c := ⟨82, [.c (.nsl 1 0 2 2)], [], #[]⟩) hc4.tl (by kernel_rfl) (by kernel_rfl) (by kernel_rfl) (closes_calls w4 (hm.xs.keep (hn4.keep B)) [ra.n, r.n] _ 2 2 hints) (fun e w5 ⟨q1, q2, q3⟩ => ⟨_, q1, ⟨fun i nb hi => ?_, fun ad v hv => sro_keep ((hn4.trans q2).keep B) hv⟩, ?_⟩)
    · have := (Sees.first (bs' := [⟨3, [.int .i64 ra.n, .int .i64 r.n]⟩]) hc4.mem.sees).cells i nb hi
      rw [q2.block _ (lt_of_block this)]; exact this
    obtain ⟨hm5, he5⟩ := hm.fresh (hn4.trans q2)
    have htl5 := TRel.put hc4.tl 30 (by rw [hc4.size]; decide) (.e (.c (.fv 131 #[bp w4.heap.size])))
    refine dgets_call (σ := { tl := (30, .e (.c (.fv 131 #[bp w4.heap.size]))) :: _, bs := [] }) (i := 11) (c := ⟨79, [.c (.rp ⟨b, 0, none⟩), .c (.int .i64 ra.n), .c (.int .i64 r.n), .c (.fv 131 #[bp w4.heap.size])], [], #[]⟩) htl5 (by kernel_rfl) (by kernel_rfl) (by kernel_rfl)
      (pours_calls hm5 ra.n r.n (.closes [ra.n, r.n]) 131 _ ⟨rfl, _, rfl, q3⟩) (fun e w6 ⟨q4, q5, q6⟩ => ⟨_, q4, ⟨fun i nb hi => ?_, fun ad v hv => sro_keep (((hn4.trans q2).keep B).trans (q6.keep hm5)) hv⟩, ?_⟩)
    · have hc' := (Sees.first (bs' := [⟨3, [.int .i64 ra.n, .int .i64 r.n]⟩]) hc4.mem.sees).cells i nb hi
      have hc5' := hc'
      rw [← q2.block _ (lt_of_block hc')] at hc5'
      have hty : nb.ty = 35 := by
        match i, hi with
        | 0, hi => cases hi; rfl
        | i + 1, hi => simp at hi
      exact (q6.keep hm5).cells hc5' (by rw [hty]; decide) (by rw [hty]; decide) (by rw [hty]; decide) (hm.notx (Nat.le_add_right _ _))
    refine dgets_done 0 (by kernel_rfl) ?_
    exact gets_end0 (by rw [Act.put_defers']; exact hc4.defers) Tryz.func101 rfl (by kernel_rfl) ⟨rfl, q5, he5.trans q6⟩
  · rw [if_pos e0]
    have o0 : (r.err != 0) = true := by simp [e0]
    refine enter (B := B) tab_ok [.e (.c (.rp ⟨b, 0, none⟩)), rsX r a n cp, .e (.c (.rp ⟨k1, 0, none⟩)), .e (.c (.rp ⟨k2, 0, none⟩))] [] [] 0 Tryz.func101 rfl rfl rfl (obs := []) (by kernel_rfl) trivial (fun a1 w1 hc1 => ?_)
    have hov1 := Over.env w (sro B w)
    refine gets_run tab_ok 60 (hc1.feed [true] [.e (.c (.int .i64 ra.n))]) (holds_of (obs := [fun _ => (Res.err r != (0 : Int)) = true, fun ε => Env.ro ε (Addr.add { block := k1, off := (0 : Nat) } (1 : Nat)) = some (Value.int IntKind.i64 (Res.n ra))]) (by kernel_rfl) ⟨o0, hN, trivial⟩) (fun a2 w2 hc2 => ?_)
    replace hc2 := hc2.pickx [(0, .e (.c (.rp ⟨b, 0, none⟩))), (2, .e (.c (.rp ⟨k1, 0, none⟩))), (3, .e (.c (.rp ⟨k2, 0, none⟩))), (5, .e (.c (.p 0 0))), (9, .e (.c (.rp ⟨b, 0, none⟩))), (12, .e (.c (.nsl 1 0 1 1)))] [⟨35, [.int .i64 (Res.err r), .int .i64 (Res.n r), .int .i64 (Res.m r), .str (Res.text r), .sl a n cp, .int .i64 (InfoD.ino (Res.info r)), .int .i64 (InfoD.kind (Res.info r)), .int .i64 (InfoD.mode (Res.info r)), .int .i64 (InfoD.owner (Res.info r)), .int .i64 (InfoD.group (Res.info r)), .int .i64 (InfoD.links (Res.info r)), .int .i64 (InfoD.size (Res.info r)), .int .i64 (InfoD.tty (Res.info r)), .int .i64 (Res.may r), .int .i64 (CredD.real_ (Res.cred r)), .int .i64 (CredD.eff (Res.cred r)), .int .i64 (CredD.saved (Res.cred r)), .int .i64 (CredD.group (Res.cred r)), .int .i64 (CredD.effGroup (Res.cred r))]⟩, ⟨3, [.int .i64 (Res.n ra)]⟩] [] (by kernel_rfl) (by kernel_rfl)
    have hn2 := hov1.rel hc2.mem
    have hints : IntsAt B w2 (some ⟨w.heap.size + 1, 0, none⟩) 1 1 [ra.n] := intsAt_new hc2.mem 1 [ra.n] rfl (hm.notx (Nat.le_add_right _ _))
    refine gets_pure (Q := fun w' => IntsBox B w' w2.heap.size [ra.n]) (c := ⟨82, [.c (.nsl 1 0 1 1)], [], #[]⟩) 13 (.e (.c (.fv 131 #[bp w2.heap.size]))) [] [] hc2 (by kernel_rfl) (by kernel_rfl) (by kernel_rfl) (by kernel_rfl) (closes_calls w2 (hm.xs.keep (hn2.keep B)) [ra.n] _ 1 1 hints) (by kernel_rfl) (by kernel_rfl) (fun a3 w3 hn3 hq3 hc3 => ?_)
    have hN3 := hn2.trans hn3
    obtain ⟨hm3, he3⟩ := hm.fresh hN3
    have hb35 : w3.heap[w.heap.size]? = some (.cells (plainR (r.cs a n cp)) 35 (0, 0)) := by
      have h2 : w2.heap[w.heap.size]? = some (.cells (plainR (r.cs a n cp)) 35 (0, 0)) := by
        have := hc2.mem.cells 0 _ rfl
        rw [map_plain _ rfl] at this
        exact this
      rw [hn3.block _ (lt_of_block h2)]; exact h2
    refine gets_evo he3 (gets_does (c := ⟨22, [.c (.rp ⟨b, 0, none⟩), .c (.fv 131 #[bp w2.heap.size])], [], #[]⟩) 14 [(0, .e (.c (.rp ⟨b, 0, none⟩))), (3, .e (.c (.rp ⟨k2, 0, none⟩))), (5, .e (.c (.rp ⟨w.heap.size, 0, none⟩)))] [] [.e (.c (.str dst)), .e (.c (.int .i64 r.err))]
      hc3 (by kernel_rfl) (by kernel_rfl) (by kernel_rfl) rfl (push_calls hm3 hl hm3.le (.closes [ra.n]) 131 _ ⟨rfl, _, rfl, hq3⟩) (fun ρ' => ⟨rfl, rfl, rfl, trivial⟩) (fun a4 w4 hm4 he4 hc4 => ?_))
    have hk4 := (hN3.keep B).trans (he4.keep hm3)
    have hb4 := (he4.keep hm3).cells hb35 (by decide) (by decide) (by decide) (hm.notx (Nat.le_refl _))
    have hS : sro B w4 ⟨k2, 0, none⟩ = some (.string dst) := Box.sro (Box.keep h2 hk4)
    have hE : sro B w4 ((⟨w.heap.size, 0, none⟩ : Addr).add 0) = some (.int .i64 r.err) := sro_cells hb4 rfl (by decide) (by decide) (by decide) (hm.notx (Nat.le_refl _)) (fun _ => 0) 0 _ rfl
    have hov4 := Over.env w4 (sro B w4)
    refine gets_run tab_ok 60 (hc4.feed [] [.e (.c (.str dst)), .e (.c (.int .i64 r.err))]) (holds_of (obs := [fun ε => Env.ro ε { block := k2, off := (0 : Nat) } = some (Value.string dst), fun ε => Env.ro ε (Addr.add { block := Array.size (World.heap w), off := (0 : Nat) } (0 : Nat)) = some (Value.int IntKind.i64 (Res.err r))]) (by kernel_rfl) ⟨hS, hE, trivial⟩) (fun a5 w5 hc5 => ?_)
    replace hc5 := hc5.pickx [(0, .e (.c (.rp ⟨b, 0, none⟩))), (5, .e (.c (.rp ⟨(Array.size (World.heap w)), 0, none⟩))), (15, .e (.c (.rp ⟨b, 0, none⟩))), (16, .e (.c (.str dst))), (18, .e (.c (.int .i64 (Res.err r))))] [] [] (by kernel_rfl) (by kernel_rfl)
    refine gets_evo he4 (gets_last (bs := []) (c := ⟨99, [.c (.rp ⟨b, 0, none⟩), .c (.str dst), .c (.int .i64 r.err)], [], #[]⟩) hm4 hov4 hc5 (by kernel_rfl) (by kernel_rfl) (by kernel_rfl) Tryz.func101 rfl (by kernel_rfl) (fun _ hm6 _ => ?_))
    exact bad_calls hm6 dst r.err hs

end Go.Proofs.YtoihipolfdhhnaaGreatDoor

namespace Go.Proofs.YtoihipolfdhhnaaGreatDoor

theorem mk_calls {B : Bd} (w : World) (s : ByteArray) : Calls Tryz.prog 44 #[.string s] w (Gives (.agg (plainR ({ op := 10, path := s, mode := 511 } : CallD).cs)) (fun _ => True) w) :=
  gives_end (B := B) [.e (.c (.str s))] [] [] 40 [⟨39, ({ op := 10, path := s, mode := 511 } : CallD).cs⟩] (obs := []) Tryz.func44 rfl rfl rfl (by kernel_rfl) (by kernel_rfl) (by kernel_rfl) (l := [.a ({ op := 10, path := s, mode := 511 } : CallD).cs]) (by kernel_rfl) trivial (congrArg Value.agg (map_plain _ rfl)) (fun w1 hr1 => trivial)

theorem rmd_calls {B : Bd} (w : World) (s : ByteArray) : Calls Tryz.prog 45 #[.string s] w (Gives (.agg (plainR ({ op := 11, path := s, dir := true } : CallD).cs)) (fun _ => True) w) :=
  gives_end (B := B) [.e (.c (.str s))] [] [] 40 [⟨39, ({ op := 11, path := s, dir := true } : CallD).cs⟩] (obs := []) Tryz.func45 rfl rfl rfl (by kernel_rfl) (by kernel_rfl) (by kernel_rfl) (l := [.a ({ op := 11, path := s, dir := true } : CallD).cs]) (by kernel_rfl) trivial (congrArg Value.agg (map_plain _ rfl)) (fun w1 hr1 => trivial)

theorem simple_word {B : Bd} {w : World} {b : Nat} {m : M} (hm : MOk B w b m) (s : ByteArray) (k : Nat) (g : FuncId) (cd : CallD) (hg : enters Tryz.prog g = true) (h1 : Box B w k 79 (.func (.func g) #[] #[])) (hc : ∀ w', Calls Tryz.prog g #[.string s] w' (Gives (.agg (plainR cd.cs)) (fun _ => True) w')) :
    Calls Tryz.prog 85 #[bp b, .string s, bp k] w (Does B b w (m.tries cd s (.noop 86))) := by
  have hS := Box.sro (B := B) h1
  refine enter (B := B) tab_ok [.e (.c (.rp ⟨b, 0, none⟩)), .e (.c (.str s)), .e (.c (.rp ⟨k, 0, none⟩))] [] [] 0 Tryz.func85 rfl rfl rfl (obs := []) (by kernel_rfl) trivial (fun a1 w1 hc1 => ?_)
  have hov1 := Over.env w (sro B w)
  refine gets_run tab_ok 60 (hc1.feed [] [.e (.c (.fv g #[]))]) (holds_of (obs := [fun ε => Env.ro ε { block := k, off := (0 : Nat) } = some (Value.func (Fn.func g) #[] #[])]) (by kernel_rfl) ⟨(Box.sro h1), trivial⟩) (fun a2 w2 hc2 => ?_)
  replace hc2 := hc2.pickx [(1, .e (.c (.str s))), (5, .e (.c (.rp ⟨b, 0, none⟩))), (6, .e (.c (.fv g (#[])))), (7, .e (.c (.str s)))] [] [] (by kernel_rfl) (by kernel_rfl)
  refine gets_pure (Q := fun _ => True) (c := ⟨g, [.c (.str s)], [], #[]⟩) 8 (.e (.a cd.cs)) [] [] hc2 (by kernel_rfl) hg (by kernel_rfl) (by kernel_rfl) (by
    have := hc w2
    refine Calls.mono this (fun e w' ⟨e1, e2, e3⟩ => ⟨?_, e2, e3⟩)
    rw [e1]
    exact congrArg (fun x => Ending.returned (Value.agg x)) (map_plain _ rfl).symm) (by kernel_rfl) (by kernel_rfl) (fun a3 w3 hn3 _ hc3 => ?_)
  have hov3 := hov1.next hc2.mem hn3 (sro B w)
  refine gets_run tab_ok 60 hc3 (holds_of (obs := []) (by kernel_rfl) trivial) (fun a4 w4 hc4 => ?_)
  replace hc4 := hc4.pickx [(5, .e (.c (.rp ⟨b, 0, none⟩))), (8, .e (.a (CallD.cs cd))), (9, .e (.c (.str s)))] [] [] (by kernel_rfl) (by kernel_rfl)
  refine gets_last (bs := []) (c := ⟨80, [.c (.rp ⟨b, 0, none⟩), .a cd.cs, .c (.str s), .c (.f 86 [])], [], #[]⟩) hm hov3 hc4 (by kernel_rfl) (by kernel_rfl) (by kernel_rfl) Tryz.func85 rfl (by kernel_rfl) (fun _ hm5 _ => ?_)
  have e : CallX.real ((env0 B w).next 0 w3 (sro B w)).ρ ⟨80, [.c (.rp ⟨b, 0, none⟩), .a cd.cs, .c (.str s), .c (.f 86 [])], [], #[]⟩ = #[bp b, .agg (plainR cd.cs), .string s, .func (.func 86) #[] #[]] := by
    simp only [CallX.real, E.real, C.real, List.map_cons, List.map_nil]
    rw [map_plain _ rfl]
    rfl
  show Calls Tryz.prog 80 (CallX.real ((env0 B w).next 0 w3 (sro B w)).ρ ⟨80, [.c (.rp ⟨b, 0, none⟩), .a cd.cs, .c (.str s), .c (.f 86 [])], [], #[]⟩) w4 _
  rw [e]
  exact tries_calls hm5 cd s (.noop 86) 86 #[] ⟨rfl, .inl rfl, rfl⟩

theorem mk_word : EOk .mk := by
  intro B w b m s f c hm hk _
  obtain ⟨rfl, k, rfl, h1⟩ := hk
  exact simple_word hm s k 44 { op := 10, path := s, mode := 511 } (by kernel_rfl) h1 (fun w' => mk_calls (B := B) w' s)

theorem rmd_word : EOk .rmd := by
  intro B w b m s f c hm hk _
  obtain ⟨rfl, k, rfl, h1⟩ := hk
  exact simple_word hm s k 45 { op := 11, path := s, dir := true } (by kernel_rfl) h1 (fun w' => rmd_calls (B := B) w' s)

theorem simple1_calls {B : Bd} {w : World} {b : Nat} {m : M} (hm : MOk B w b m) (l : List ByteArray) (a : Option Addr) (n cp : Nat) (hl : StrsAt B w a n cp l) (e : Ef) (he : EOk e) (k : Nat) (hr : RepE B w e 85 #[bp k]) (hs : m.prog.size ≤ 1152921504606846976) (hok : l = [] ∨ okEach l e m) :
    Calls Tryz.prog 83 #[bp b, .slice a n cp, bp k] w (Does B b w (if l = [] then m.wrong else runEach l e m)) := by
  have hn := hl.len
  by_cases h : l = []
  · rw [if_pos h]
    have o1 : ((n : Int) == 0) = true := by rw [hn, h]; rfl
    refine does_tail [.e (.c (.rp ⟨b, 0, none⟩)), .e (.c (.sl a n cp)), .e (.c (.rp ⟨k, 0, none⟩))] [true] [] 60 [] ⟨84, [.c (.rp ⟨b, 0, none⟩)], [], (#[])⟩ (obs := [fun _ => ((↑n : Int) == (0 : Int)) = true]) hm Tryz.func83 rfl rfl rfl (by kernel_rfl) (by kernel_rfl) (by kernel_rfl) (by kernel_rfl) rfl (by kernel_rfl) ⟨o1, trivial⟩ (fun w1 hr1 hm1 hk1 => ?_)
    exact wrong_calls hm1 hs
  · rw [if_neg h]
    have h0 : l.length ≠ 0 := fun e => h (List.length_eq_zero_iff.1 e)
    have o1 : ((n : Int) == 0) = false := by rw [beq_eq_false_iff_ne]; omega
    refine does_tail [.e (.c (.rp ⟨b, 0, none⟩)), .e (.c (.sl a n cp)), .e (.c (.rp ⟨k, 0, none⟩))] [false] [] 60 [] ⟨77, [.c (.rp ⟨b, 0, none⟩), .c (.sl a n cp), .c (.f 85 [.r ⟨k, 0, none⟩])], [], (#[])⟩ (obs := [fun _ => ((↑n : Int) == (0 : Int)) = false]) hm Tryz.func83 rfl rfl rfl (by kernel_rfl) (by kernel_rfl) (by kernel_rfl) (by kernel_rfl) rfl (by kernel_rfl) ⟨o1, trivial⟩ (fun w1 hr1 hm1 hk1 => ?_)
    exact each_calls hm1 l a n cp (hl.keep hk1) e he 85 _ (hr.keep hk1) (hok.resolve_left h)

end Go.Proofs.YtoihipolfdhhnaaGreatDoor

namespace Go.Proofs.YtoihipolfdhhnaaGreatDoor

/-- The same slots over another world, where nothing is named. -/
theorem CRel.over {B : Bd} {w w' : World} {nt : Nat} {tl : List (Nat × SV)} {a : Act} (hc : CRel (env0 B w) nt { tl := tl, bs := [] } a w) (hb : (tl.all fun x => x.2.below 0) = true) (d : Nat) (v : SV) (hd : Nat.blt d nt = true) :
    CRel (env0 B w') nt { tl := (d, v) :: tl, bs := [] } (a.put (some d) (v.real (env0 B w').ρ)) w' := by
  refine ⟨fun d' u hd' => ?_, by rw [Act.put_size]; exact hc.size, by rw [Act.put_defers']; exact hc.defers, rel_nil w' _ (fun _ _ h => (sro_le h).2)⟩
  simp only [lk] at hd'
  split at hd'
  · rename_i e
    cases hd'
    subst e
    show (a.tmps.setIfInBounds d _)[d]? = _
    rw [Array.getElem?_setIfInBounds_self_of_lt (by rw [hc.size]; exact Nat.le_of_ble_eq_true hd)]
  · rename_i hne
    show (a.tmps.setIfInBounds d _)[d']? = _
    rw [Array.getElem?_setIfInBounds_ne hne, hc.tl d' u hd']
    have hu : u.below 0 = true := by
      have : (d', u) ∈ tl := by
        clear hb hc hne
        induction tl with
        | nil => cases hd'
        | cons x l ih =>
          obtain ⟨x1, x2⟩ := x
          simp only [lk] at hd'
          split at hd'
          · rename_i e; cases hd'; subst e; simp
          · exact List.mem_cons_of_mem _ (ih hd')
      exact List.all_eq_true.1 hb _ this
    exact congrArg some (SV.real_below (fun i hi => by omega) hu)

theorem lk_mem {d : Nat} {u : SV} {tl : List (Nat × SV)} (h : lk d tl = some u) : (d, u) ∈ tl := by
  induction tl with
  | nil => cases h
  | cons x l ih =>
    obtain ⟨x1, x2⟩ := x
    simp only [lk] at h
    split at h
    · rename_i e; cases h; subst e; simp
    · exact List.mem_cons_of_mem _ (ih h)

/-- Slots without names. -/
theorem CRel.plain {ε : Env} {nt : Nat} {tl : List (Nat × SV)} {bs : List NB} {orc : List Bool} {ext : List SV} {ob : List (Env → Prop)} {a : Act} {w : World} (hc : CRel ε nt { tl := tl, bs := bs, orc := orc, ext := ext, ob := ob } a w) (B : Bd) (hb : (tl.all fun x => x.2.below 0) = true) : CRel (env0 B w) nt { tl := tl, bs := [] } a w := by
  refine ⟨fun d u hd => ?_, hc.size, hc.defers, rel_nil w _ (fun _ _ h => (sro_le h).2)⟩
  rw [hc.tl d u hd]
  exact congrArg some (SV.real_below (fun i hi => by omega) (List.all_eq_true.1 hb _ (lk_mem hd))).symm

theorem new_iter (w : World) (s : ByteArray) : New w (w.alloc (.stringIter s 0)) := ⟨rfl, rfl, rfl, by show _ ≤ (w.heap.push _).size; simp, fun k hk => by
  show (w.heap.push _)[k]? = _
  rw [Array.getElem?_push, if_neg (by omega)]⟩

theorem gets_iter {B : Bd} {w : World} {nt : Nat} {f : FuncId} {k : List Item} {tl : List (Nat × SV)} {a : Act} {R : Ending → World → Prop} (d x : Nat) (s : ByteArray) (ty : TypeId) (hc : CRel (env0 B w) nt { tl := tl, bs := [] } a w) (hop : opX k = some (some d, .range 9 (.tmp x), ty)) (hx : lk x tl = some (.e (.c (.str s))))
    (hb : (tl.all fun x => x.2.below 0) = true) (hd : Nat.blt d nt = true)
    (h : ∀ a' w', New w w' → w.heap.size < w'.heap.size → w'.heap[w.heap.size]? = some (.stringIter s 0) → CRel (env0 B w') nt { tl := (d, .e (.c (.rp ⟨w.heap.size, 0, none⟩))) :: tl, bs := [] } a' w' → Gets Tryz.prog f (popX k) a' w' R) : Gets Tryz.prog f k a w R := by
  have hex : a.eval (.tmp x) = .string s := ev_ok hc.tl (x := .tmp x) hx
  refine gets_opX hop (v := .pointer (some ⟨w.heap.size, 0, none⟩)) (w' := w.alloc (.stringIter s 0)) (fun pos after => ?_) ?_
  · simp [execOp, hex, Instr.range, run_underlying Tryz.underlying9]
  · exact h _ _ (new_iter w s) (by show _ < (w.heap.push _).size; simp) (by show (w.heap.push _)[_]? = _; simp) (hc.over hb d _ hd)

theorem gets_nextC {B : Bd} {w : World} {nt : Nat} {f : FuncId} {k : List Item} {tl : List (Nat × SV)} {a : Act} {R : Ending → World → Prop} (d x kb : Nat) (s : ByteArray) (pos : Nat) (ty : TypeId) (hc : CRel (env0 B w) nt { tl := tl, bs := [] } a w) (hop : opX k = some (some d, .next (.tmp x) true, ty)) (hx : lk x tl = some (.e (.c (.rp ⟨kb, 0, none⟩))))
    (hk : w.heap[kb]? = some (.stringIter s pos)) (hp : pos < s.size) (hb : (tl.all fun x => x.2.below 0) = true) (hd : Nat.blt d nt = true)
    (h : ∀ a', CRel (env0 B (w.iterAt kb s (pos + (Utf8.decode s pos).2))) nt { tl := (d, .t [.c (.bool true), .c (.int .i64 (pos : Int)), .c (.int .i32 ((Utf8.decode s pos).1 : Int))]) :: tl, bs := [] } a' (w.iterAt kb s (pos + (Utf8.decode s pos).2)) → Gets Tryz.prog f (popX k) a' (w.iterAt kb s (pos + (Utf8.decode s pos).2)) R) : Gets Tryz.prog f k a w R := by
  have hex : a.eval (.tmp x) = .pointer (some ⟨kb, 0, none⟩) := ev_ok hc.tl (x := .tmp x) hx
  refine gets_opX hop (v := .tuple #[.bool true, .int .i64 pos, .int .i32 (Utf8.decode s pos).1]) (w' := w.iterAt kb s (pos + (Utf8.decode s pos).2)) (fun p after => ?_) ?_
  · have := Lib.run_next_any_at (P := Tryz.prog) w kb s pos ty hk hp
    simp [execOp, hex, this]
  · exact h _ (hc.over hb d (.t [.c (.bool true), .c (.int .i64 (pos : Int)), .c (.int .i32 ((Utf8.decode s pos).1 : Int))]) hd)

theorem gets_nextE {B : Bd} {w : World} {nt : Nat} {f : FuncId} {k : List Item} {tl : List (Nat × SV)} {a : Act} {R : Ending → World → Prop} (d x kb : Nat) (s : ByteArray) (pos : Nat) (ty : TypeId) (hc : CRel (env0 B w) nt { tl := tl, bs := [] } a w) (hop : opX k = some (some d, .next (.tmp x) true, ty)) (hx : lk x tl = some (.e (.c (.rp ⟨kb, 0, none⟩))))
    (hk : w.heap[kb]? = some (.stringIter s pos)) (hp : ¬ pos < s.size) (hb : (tl.all fun x => x.2.below 0) = true) (hd : Nat.blt d nt = true)
    (h : ∀ a', CRel (env0 B w) nt { tl := (d, .t [.c (.bool false)]) :: tl, bs := [] } a' w → Gets Tryz.prog f (popX k) a' w R) : Gets Tryz.prog f k a w R := by
  have hex : a.eval (.tmp x) = .pointer (some ⟨kb, 0, none⟩) := ev_ok hc.tl (x := .tmp x) hx
  refine gets_opX hop (v := .tuple #[.bool false]) (w' := w) (fun p after => ?_) ?_
  · have := Lib.run_next_end_at (P := Tryz.prog) w kb s pos ty hk hp
    simp [execOp, hex, this]
  · exact h _ (hc.over hb d (.t [.c (.bool false)]) hd)

theorem iterAt_new {w0 w : World} (hn : New w0 w) {k : Nat} (hk : w0.heap.size ≤ k) (s : ByteArray) (pos : Nat) : New w0 (w.iterAt k s pos) :=
  ⟨hn.os, hn.tape, hn.output, by rw [Lib.iterAt_size]; exact hn.size, fun j hj => by rw [Lib.iterAt_other w k j s pos (by omega)]; exact hn.block j hj⟩

theorem dropWhile_all {α : Type} (p : α → Bool) : ∀ (l : List α), (∀ b ∈ l, p b = true) → l.dropWhile p = []
  | [], _ => rfl
  | b :: l, h => by
    rw [List.dropWhile_cons_of_pos (h b (List.mem_cons_self ..))]
    exact dropWhile_all p l (fun c hc => h c (List.mem_cons_of_mem _ hc))

/-- A text without the bytes of a set of two at its begin. -/
def cutL (x y : UInt8) (s : ByteArray) : ByteArray := ⟨(s.data.toList.dropWhile (two x y)).toArray⟩

noncomputable def cl0 : List Item := (run Tab Tryz.f137.ntmps 20 (code Tryz.f137) (ini [.e (.c (.str ⟨#[]⟩)), .e (.c (.str ⟨#[]⟩))] [] [])).1
noncomputable def cl1 : List Item := (run Tab Tryz.f137.ntmps 20 (popX cl0) { tl := [(11, .e (.c (.rp ⟨0, 0, none⟩)))], bs := [] }).1
noncomputable def clH : List Item := (loopX cl1).getD []
noncomputable def cl2 : List Item := (run Tab Tryz.f137.ntmps 20 clH { tl := [], bs := [] }).1
noncomputable def cl3 : List Item := (run Tab Tryz.f137.ntmps 60 (popX cl2) { tl := [(12, .t [.c (.bool true), .c (.int .i64 0), .c (.int .i32 0)]), (1, .e (.c (.str ⟨#[]⟩)))], bs := [] }).1
noncomputable def cl4 : List Item := (run Tab Tryz.f137.ntmps 20 (popX cl3) { tl := [(17, .e (.c (.rp ⟨0, 0, none⟩)))], bs := [] }).1
noncomputable def clI : List Item := (loopX cl4).getD []
noncomputable def cl5 : List Item := (run Tab Tryz.f137.ntmps 20 clI { tl := [], bs := [] }).1

theorem gets_items {P : Program} {f : FuncId} {k k' : List Item} {a : Act} {w : World} {R : Ending → World → Prop} (e : k = k') (h : Gets P f k' a w R) : Gets P f k a w R := e ▸ h

/-- Is the rune one of two? -/
def isTwo (x y : UInt8) (c : Int) : Bool := c == (x.toNat : Int) || c == (y.toNat : Int)

theorem cl_step {B : Bd} {w : World} {a : Act} {R : Ending → World → Prop} (s set : ByteArray) (i j c d : Int) (k k2 : Nat) (b : Bool)
    (hc : CRel (env0 B w) Tryz.f137.ntmps { tl := [(18, .t [.c (.bool true), .c (.int .i64 j), .c (.int .i32 d)]), (0, .e (.c (.str s))), (1, .e (.c (.str set))), (5, .e (.c (.int .i64 i))), (6, .e (.c (.int .i32 c))), (7, .e (.c (.bool b))), (11, .e (.c (.rp ⟨k, 0, none⟩))), (17, .e (.c (.rp ⟨k2, 0, none⟩)))], bs := [] } a w)
    (h : ∀ a' w', New w w' → CRel (env0 B w') Tryz.f137.ntmps { tl := [(0, .e (.c (.str s))), (1, .e (.c (.str set))), (5, .e (.c (.int .i64 i))), (6, .e (.c (.int .i32 c))), (7, .e (.c (.bool (b || c == d)))), (11, .e (.c (.rp ⟨k, 0, none⟩))), (17, .e (.c (.rp ⟨k2, 0, none⟩)))], bs := [] } a' w' → Gets Tryz.prog 137 clI a' w' R) : Gets Tryz.prog 137 (popX cl5) a w R := by
  cases b with
  | true =>
    refine gets_run tab_ok 60 hc (holds_of (obs := []) (by kernel_rfl) trivial) (fun a1 w1 hc1 => ?_)
    replace hc1 := hc1.pickx [(0, .e (.c (.str s))), (1, .e (.c (.str set))), (5, .e (.c (.int .i64 i))), (6, .e (.c (.int .i32 c))), (7, .e (.c (.bool true))), (9, .e (.c (.int .i32 d))), (11, .e (.c (.rp ⟨k, 0, none⟩))), (17, .e (.c (.rp ⟨k2, 0, none⟩))), (18, .t [.c (.bool true), .c (.int .i64 j), .c (.int .i32 d)]), (19, .e (.c (.bool true))), (20, .e (.c (.int .i32 d))), (21, .e (.c (.bool true))), (22, .e (.c (.bool true))), (26, .e (.c (.bool true)))] [] [] (by kernel_rfl) (by kernel_rfl)
    refine gets_loop (k' := clI) (by kernel_rfl) ?_
    exact h a1 w1 ((Over.env w _).rel hc1.mem) (hc1.anew B _ [] [] ⟨by rfl, by rfl, by rfl, by rfl, by rfl, by rfl, by rfl, trivial⟩)
  | false =>
    cases hd : (c == d) with
    | true =>
      refine gets_run tab_ok 60 (hc.feed [true] []) (holds_of (obs := [fun _ => (c == d) = true]) (by kernel_rfl) ⟨hd, trivial⟩) (fun a1 w1 hc1 => ?_)
      replace hc1 := hc1.pickx [(0, .e (.c (.str s))), (1, .e (.c (.str set))), (5, .e (.c (.int .i64 i))), (6, .e (.c (.int .i32 c))), (7, .e (.c (.bool true))), (9, .e (.c (.int .i32 d))), (11, .e (.c (.rp ⟨k, 0, none⟩))), (17, .e (.c (.rp ⟨k2, 0, none⟩))), (18, .t [.c (.bool true), .c (.int .i64 j), .c (.int .i32 d)]), (19, .e (.c (.bool true))), (20, .e (.c (.int .i32 d))), (21, .e (.c (.bool false))), (22, .e (.c (.bool false))), (23, .e (.c (.int .i32 c))), (24, .e (.c (.int .i32 d))), (25, .e (.c (.bool true))), (26, .e (.c (.bool true)))] [] [] (by kernel_rfl) (by kernel_rfl)
      refine gets_loop (k' := clI) (by kernel_rfl) ?_
      refine h a1 w1 ((Over.env w _).rel hc1.mem) (hc1.anew B _ [] [] ⟨by rfl, by rfl, by rfl, by rfl, by rw [hd]; rfl, by rfl, by rfl, trivial⟩)
    | false =>
      refine gets_run tab_ok 60 (hc.feed [false] []) (holds_of (obs := [fun _ => (c == d) = false]) (by kernel_rfl) ⟨hd, trivial⟩) (fun a1 w1 hc1 => ?_)
      replace hc1 := hc1.pickx [(0, .e (.c (.str s))), (1, .e (.c (.str set))), (5, .e (.c (.int .i64 i))), (6, .e (.c (.int .i32 c))), (7, .e (.c (.bool false))), (9, .e (.c (.int .i32 d))), (11, .e (.c (.rp ⟨k, 0, none⟩))), (17, .e (.c (.rp ⟨k2, 0, none⟩))), (18, .t [.c (.bool true), .c (.int .i64 j), .c (.int .i32 d)]), (19, .e (.c (.bool true))), (20, .e (.c (.int .i32 d))), (21, .e (.c (.bool false))), (22, .e (.c (.bool false))), (23, .e (.c (.int .i32 c))), (24, .e (.c (.int .i32 d))), (25, .e (.c (.bool false))), (26, .e (.c (.bool false)))] [] [] (by kernel_rfl) (by kernel_rfl)
      refine gets_loop (k' := clI) (by kernel_rfl) ?_
      refine h a1 w1 ((Over.env w _).rel hc1.mem) (hc1.anew B _ [] [] ⟨by rfl, by rfl, by rfl, by rfl, by rw [hd]; rfl, by rfl, by rfl, trivial⟩)

theorem cl_inner {B : Bd} {w : World} {a : Act} {R : Ending → World → Prop} (s : ByteArray) (x y : UInt8) (hx : x.toNat < 128) (hy : y.toNat < 128) (i c : Int) (k k2 : Nat) (hk2 : w.heap[k2]? = some (.stringIter ⟨#[x, y]⟩ 0)) (w0 : World) (hN : New w0 w) (h02 : w0.heap.size ≤ k2)
    (hc : CRel (env0 B w) Tryz.f137.ntmps { tl := [(0, .e (.c (.str s))), (1, .e (.c (.str ⟨#[x, y]⟩))), (5, .e (.c (.int .i64 i))), (6, .e (.c (.int .i32 c))), (7, .e (.c (.bool false))), (11, .e (.c (.rp ⟨k, 0, none⟩))), (17, .e (.c (.rp ⟨k2, 0, none⟩)))], bs := [] } a w)
    (h : ∀ a' w', New w0 w' → (∀ j, j < w.heap.size → j ≠ k2 → w'.heap[j]? = w.heap[j]?) → CRel (env0 B w') Tryz.f137.ntmps { tl := [(18, .t [.c (.bool false)]), (0, .e (.c (.str s))), (1, .e (.c (.str ⟨#[x, y]⟩))), (5, .e (.c (.int .i64 i))), (6, .e (.c (.int .i32 c))), (7, .e (.c (.bool (isTwo x y c)))), (11, .e (.c (.rp ⟨k, 0, none⟩))), (17, .e (.c (.rp ⟨k2, 0, none⟩)))], bs := [] } a' w' → Gets Tryz.prog 137 (popX cl5) a' w' R) :
    Gets Tryz.prog 137 clI a w R := by
  have hsz : (⟨#[x, y]⟩ : ByteArray).size = 2 := rfl
  have d0 : Utf8.decode ⟨#[x, y]⟩ 0 = (x.toNat, 1) := decode_ascii ⟨#[x, y]⟩ 0 (by rw [hsz]; omega) hx
  have d1 : Utf8.decode ⟨#[x, y]⟩ 1 = (y.toNat, 1) := decode_ascii ⟨#[x, y]⟩ 1 (by rw [hsz]; omega) hy
  have hk2lt := lt_of_block hk2
  refine gets_run tab_ok 20 hc (holds_of (obs := []) (by kernel_rfl) trivial) (fun a1 w1 hc1 => ?_)
  replace hc1 := hc1.pickx [(0, .e (.c (.str s))), (1, .e (.c (.str ({ data := #[x, y] })))), (5, .e (.c (.int .i64 i))), (6, .e (.c (.int .i32 c))), (7, .e (.c (.bool false))), (11, .e (.c (.rp ⟨k, 0, none⟩))), (17, .e (.c (.rp ⟨k2, 0, none⟩)))] [] [] (by kernel_rfl) (by kernel_rfl)
  have hn1 := (Over.env w _).rel hc1.mem
  have hc1' := hc1.plain B (by kernel_rfl)
  have hk21 : w1.heap[k2]? = some (.stringIter ⟨#[x, y]⟩ 0) := by rw [hn1.block _ hk2lt]; exact hk2
  refine gets_nextC 18 17 k2 ⟨#[x, y]⟩ 0 0 hc1' (by kernel_rfl) (by kernel_rfl) hk21 (by rw [hsz]; omega) (by kernel_rfl) (by kernel_rfl) (fun a2 hc2 => gets_items (k' := popX cl5) (by kernel_rfl) ?_)
  rw [d0] at hc2 ⊢
  have hN2 := iterAt_new (hN.trans hn1) h02 ⟨#[x, y]⟩ (0 + 1)
  have hk22 := Lib.iterAt_heap w1 k2 ⟨#[x, y]⟩ 0 (0 + 1) hk21
  have hs2 := Lib.iterAt_size w1 k2 ⟨#[x, y]⟩ (0 + 1)
  have ho2 : ∀ j, j ≠ k2 → (w1.iterAt k2 ⟨#[x, y]⟩ (0 + 1)).heap[j]? = w1.heap[j]? := fun j hj => Lib.iterAt_other w1 k2 j ⟨#[x, y]⟩ (0 + 1) hj
  generalize w1.iterAt k2 ⟨#[x, y]⟩ (0 + 1) = w2 at *
  refine cl_step s ⟨#[x, y]⟩ i ((0 : Nat) : Int) c (x.toNat : Int) k k2 false hc2 (fun a3 w3 hn3 hc3 => ?_)
  have hk23 : w3.heap[k2]? = some (.stringIter ⟨#[x, y]⟩ 1) := by rw [hn3.block _ (lt_of_block hk22)]; exact hk22
  refine gets_run tab_ok 20 hc3 (holds_of (obs := []) (by kernel_rfl) trivial) (fun a4 w4 hc4 => ?_)
  replace hc4 := hc4.pickx [(0, .e (.c (.str s))), (1, .e (.c (.str ({ data := #[x, y] })))), (5, .e (.c (.int .i64 i))), (6, .e (.c (.int .i32 c))), (7, .e (.c (.bool (false || c == (↑(UInt8.toNat x) : Int))))), (11, .e (.c (.rp ⟨k, 0, none⟩))), (17, .e (.c (.rp ⟨k2, 0, none⟩)))] [] [] (by kernel_rfl) (by kernel_rfl)
  have hn4 := (Over.env w3 _).rel hc4.mem
  have hc4' := hc4.plain B (by kernel_rfl)
  have hk24 : w4.heap[k2]? = some (.stringIter ⟨#[x, y]⟩ 1) := by rw [hn4.block _ (lt_of_block hk23)]; exact hk23
  refine gets_nextC 18 17 k2 ⟨#[x, y]⟩ 1 0 hc4' (by kernel_rfl) (by kernel_rfl) hk24 (by rw [hsz]; omega) (by kernel_rfl) (by kernel_rfl) (fun a5 hc5 => gets_items (k' := popX cl5) (by kernel_rfl) ?_)
  rw [d1] at hc5 ⊢
  have hN4 := (hN2.trans hn3).trans hn4
  have hN5 := iterAt_new hN4 h02 ⟨#[x, y]⟩ (1 + 1)
  have hk25 := Lib.iterAt_heap w4 k2 ⟨#[x, y]⟩ 1 (1 + 1) hk24
  have hs5 := Lib.iterAt_size w4 k2 ⟨#[x, y]⟩ (1 + 1)
  have ho5 : ∀ j, j ≠ k2 → (w4.iterAt k2 ⟨#[x, y]⟩ (1 + 1)).heap[j]? = w4.heap[j]? := fun j hj => Lib.iterAt_other w4 k2 j ⟨#[x, y]⟩ (1 + 1) hj
  generalize w4.iterAt k2 ⟨#[x, y]⟩ (1 + 1) = w5 at *
  refine cl_step s ⟨#[x, y]⟩ i ((1 : Nat) : Int) c (y.toNat : Int) k k2 _ hc5 (fun a6 w6 hn6 hc6 => ?_)
  have hk26 : w6.heap[k2]? = some (.stringIter ⟨#[x, y]⟩ 2) := by rw [hn6.block _ (lt_of_block hk25)]; exact hk25
  have hbe : (false || c == (x.toNat : Int) || c == (y.toNat : Int)) = isTwo x y c := by simp [isTwo]
  rw [hbe] at hc6
  refine gets_run tab_ok 20 hc6 (holds_of (obs := []) (by kernel_rfl) trivial) (fun a7 w7 hc7 => ?_)
  replace hc7 := hc7.pickx [(0, .e (.c (.str s))), (1, .e (.c (.str ({ data := #[x, y] })))), (5, .e (.c (.int .i64 i))), (6, .e (.c (.int .i32 c))), (7, .e (.c (.bool (isTwo x y c)))), (11, .e (.c (.rp ⟨k, 0, none⟩))), (17, .e (.c (.rp ⟨k2, 0, none⟩)))] [] [] (by kernel_rfl) (by kernel_rfl)
  have hn7 := (Over.env w6 _).rel hc7.mem
  have hc7' := hc7.plain B (by kernel_rfl)
  have hk27 : w7.heap[k2]? = some (.stringIter ⟨#[x, y]⟩ 2) := by rw [hn7.block _ (lt_of_block hk26)]; exact hk26
  refine gets_nextE 18 17 k2 ⟨#[x, y]⟩ 2 0 hc7' (by kernel_rfl) (by kernel_rfl) hk27 (by rw [hsz]; omega) (by kernel_rfl) (by kernel_rfl) (fun a8 hc8 => gets_items (k' := popX cl5) (by kernel_rfl) ?_)
  refine h a8 w7 ((hN5.trans hn6).trans hn7) (fun j hj hne => ?_) hc8
  have e1 := hn1.size
  have e3 := hn3.size
  have e4 := hn4.size
  have e6 := hn6.size
  rw [hn7.block j (by omega), hn6.block j (by omega), ho5 j hne, hn4.block j (by omega), hn3.block j (by omega), ho2 j hne, hn1.block j hj]

theorem isTwo_high (x y : UInt8) (hx : x.toNat < 128) (hy : y.toNat < 128) (c : Nat) (hc : 128 ≤ c) : isTwo x y (c : Int) = false := by
  have h1 : ((c : Int) == (x.toNat : Int)) = false := by rw [beq_eq_false_iff_ne]; omega
  have h2 : ((c : Int) == (y.toNat : Int)) = false := by rw [beq_eq_false_iff_ne]; omega
  simp [isTwo, h1, h2]

theorem isTwo_byte (x y b : UInt8) : isTwo x y (b.toNat : Int) = two x y b := by
  have h : ∀ z : UInt8, ((b.toNat : Int) == (z.toNat : Int)) = (b == z) := by
    intro z
    rw [Bool.eq_iff_iff, beq_iff_eq, beq_iff_eq]
    constructor
    · intro e; exact UInt8.toNat_inj.1 (by omega)
    · rintro rfl; rfl
  simp [isTwo, two, h]

theorem cl_loop {B : Bd} (s : ByteArray) (x y : UInt8) (hx : x.toNat < 128) (hy : y.toNat < 128) (k : Nat) (w0 : World) (h0k : w0.heap.size ≤ k) : ∀ (n pos : Nat) (w : World) (a : Act), pos + n = s.size → w.heap[k]? = some (.stringIter s pos) → New w0 w →
    (∀ i, i < pos → ∀ b, s.data.toList[i]? = some b → two x y b = true) →
    CRel (env0 B w) Tryz.f137.ntmps { tl := [(0, .e (.c (.str s))), (1, .e (.c (.str ⟨#[x, y]⟩))), (11, .e (.c (.rp ⟨k, 0, none⟩)))], bs := [] } a w → Gets Tryz.prog 137 clH a w (Gives (.string (cutL x y s)) (fun _ => True) w0) := by
  intro n
  induction n with
  | zero =>
    intro pos w a hp hk hN hin hc
    have hps : pos = s.size := by omega
    refine gets_run tab_ok 20 hc (holds_of (obs := []) (by kernel_rfl) trivial) (fun a1 w1 hc1 => ?_)
    replace hc1 := hc1.pickx [(0, .e (.c (.str s))), (1, .e (.c (.str ({ data := #[x, y] })))), (11, .e (.c (.rp ⟨k, 0, none⟩)))] [] [] (by kernel_rfl) (by kernel_rfl)
    have hn1 := (Over.env w _).rel hc1.mem
    have hc1' := hc1.plain B (by kernel_rfl)
    have hk1 : w1.heap[k]? = some (.stringIter s pos) := by rw [hn1.block _ (lt_of_block hk)]; exact hk
    refine gets_nextE 12 11 k s pos 0 hc1' (by kernel_rfl) (by kernel_rfl) hk1 (by omega) (by kernel_rfl) (by kernel_rfl) (fun a2 hc2 => ?_)
    refine gets_run tab_ok 60 hc2 (holds_of (obs := []) (by kernel_rfl) trivial) (fun a3 w3 hc3 => ?_)
    replace hc3 := hc3.pickx [(4, .e (.c (.str ⟨#[]⟩)))] [] [] (by kernel_rfl) (by kernel_rfl)
    have hcut : cutL x y s = ⟨#[]⟩ := by
      unfold cutL
      have : s.data.toList.dropWhile (two x y) = [] := by
        refine dropWhile_all _ _ (fun b hb => ?_)
        obtain ⟨i, hi⟩ := List.getElem?_of_mem hb
        have hil := (List.getElem?_eq_some_iff.1 hi).1
        have : s.data.toList.length = s.size := by simp
        exact hin i (by omega) b hi
      rw [this]
    rw [hcut]
    exact gets_fin tab_ok (l := [.c (.str ⟨#[]⟩)]) hc3 Tryz.func137 (by kernel_rfl) (by kernel_rfl) ⟨rfl, (hN.trans hn1).trans ((Over.env w1 _).rel hc3.mem), trivial⟩
  | succ n ih =>
    intro pos w a hp hk hN hin hc
    have hps : pos < s.size := by omega
    have hlen : s.data.toList.length = s.size := by simp
    refine gets_run tab_ok 20 hc (holds_of (obs := []) (by kernel_rfl) trivial) (fun a1 w1 hc1 => ?_)
    replace hc1 := hc1.pickx [(0, .e (.c (.str s))), (1, .e (.c (.str ({ data := #[x, y] })))), (11, .e (.c (.rp ⟨k, 0, none⟩)))] [] [] (by kernel_rfl) (by kernel_rfl)
    have hn1 := (Over.env w _).rel hc1.mem
    have hc1' := hc1.plain B (by kernel_rfl)
    have hk1 : w1.heap[k]? = some (.stringIter s pos) := by rw [hn1.block _ (lt_of_block hk)]; exact hk
    refine gets_nextC 12 11 k s pos 0 hc1' (by kernel_rfl) (by kernel_rfl) hk1 hps (by kernel_rfl) (by kernel_rfl) (fun a2 hc2 => ?_)
    have hN2 := iterAt_new (hN.trans hn1) h0k s (pos + (Utf8.decode s pos).2)
    have hk2 := Lib.iterAt_heap w1 k s pos (pos + (Utf8.decode s pos).2) hk1
    generalize w1.iterAt k s (pos + (Utf8.decode s pos).2) = w2 at *
    refine gets_run tab_ok 60 hc2 (holds_of (obs := []) (by kernel_rfl) trivial) (fun a3 w3 hc3 => ?_)
    replace hc3 := hc3.pickx [(0, .e (.c (.str s))), (1, .e (.c (.str ({ data := #[x, y] })))), (5, .e (.c (.int .i64 ((↑pos : Int))))), (6, .e (.c (.int .i32 ((↑(Prod.fst (Utf8.decode s pos)) : Int))))), (7, .e (.c (.bool false))), (11, .e (.c (.rp ⟨k, 0, none⟩))), (12, .t [.c (.bool true), .c (.int .i64 ((↑pos : Int))), .c (.int .i32 ((↑(Prod.fst (Utf8.decode s pos)) : Int)))]), (13, .e (.c (.bool true))), (14, .e (.c (.int .i64 ((↑pos : Int))))), (15, .e (.c (.int .i32 ((↑(Prod.fst (Utf8.decode s pos)) : Int))))), (16, .e (.c (.str ({ data := #[x, y] }))))] [] [] (by kernel_rfl) (by kernel_rfl)
    have hn3 := (Over.env w2 _).rel hc3.mem
    have hc3' := hc3.plain B (by kernel_rfl)
    have hk3 : w3.heap[k]? = some (.stringIter s (pos + (Utf8.decode s pos).2)) := by rw [hn3.block _ (lt_of_block hk2)]; exact hk2
    refine gets_iter 17 16 ⟨#[x, y]⟩ 0 hc3' (by kernel_rfl) (by kernel_rfl) (by kernel_rfl) (by kernel_rfl) (fun a4 w4 hn4 hlt4 hk4 hc4 => ?_)
    have hk4' : w4.heap[k]? = some (.stringIter s (pos + (Utf8.decode s pos).2)) := by rw [hn4.block _ (lt_of_block hk3)]; exact hk3
    have hN4 := (hN2.trans hn3).trans hn4
    refine gets_run tab_ok 20 hc4 (holds_of (obs := []) (by kernel_rfl) trivial) (fun a5 w5 hc5 => ?_)
    replace hc5 := hc5.pickx [(0, .e (.c (.str s))), (1, .e (.c (.str ({ data := #[x, y] })))), (5, .e (.c (.int .i64 ((↑pos : Int))))), (6, .e (.c (.int .i32 ((↑(Prod.fst (Utf8.decode s pos)) : Int))))), (7, .e (.c (.bool false))), (11, .e (.c (.rp ⟨k, 0, none⟩))), (12, .t [.c (.bool true), .c (.int .i64 ((↑pos : Int))), .c (.int .i32 ((↑(Prod.fst (Utf8.decode s pos)) : Int)))]), (13, .e (.c (.bool true))), (14, .e (.c (.int .i64 ((↑pos : Int))))), (15, .e (.c (.int .i32 ((↑(Prod.fst (Utf8.decode s pos)) : Int))))), (16, .e (.c (.str ({ data := #[x, y] })))), (17, .e (.c (.rp ⟨(Array.size (World.heap w3)), 0, none⟩)))] [] [] (by kernel_rfl) (by kernel_rfl)
    have hn5 := (Over.env w4 _).rel hc5.mem
    have hc5' := (hc5.pick [(0, .e (.c (.str s))), (1, .e (.c (.str ⟨#[x, y]⟩))), (5, .e (.c (.int .i64 (pos : Int)))), (6, .e (.c (.int .i32 ((Utf8.decode s pos).1 : Int)))), (7, .e (.c (.bool false))), (11, .e (.c (.rp ⟨k, 0, none⟩))), (17, .e (.c (.rp ⟨w3.heap.size, 0, none⟩)))] [] (by kernel_rfl) (by kernel_rfl)).plain B (by kernel_rfl)
    refine gets_loop (k' := clI) (by kernel_rfl) ?_
    have hk35 : w3.heap.size ≤ w3.heap.size := Nat.le_refl _
    refine cl_inner s x y hx hy (pos : Int) ((Utf8.decode s pos).1 : Int) k w3.heap.size (by rw [hn5.block _ hlt4]; exact hk4) w0 (hN4.trans hn5) (hN2.trans hn3).size hc5' (fun a6 w6 hN6 ho6 hc6 => ?_)
    have hkw6 : w6.heap[k]? = some (.stringIter s (pos + (Utf8.decode s pos).2)) := by
      have h1 := lt_of_block hk3
      have h2 := lt_of_block hk4'
      have h3 := hn5.size
      rw [ho6 k (by omega) (by omega), hn5.block k h2]
      exact hk4'
    have hb : s.data.toList[pos]? = some (s[pos]'hps) := by
      have : s[pos]'hps = s.data.toList[pos]'(by omega) := rfl
      rw [this]
      exact List.getElem?_eq_getElem _
    -- the byte stands in the set
    have hyes : two x y (s[pos]'hps) = true → (Utf8.decode s pos) = ((s[pos]'hps).toNat, 1) := by
      intro ht
      refine decode_ascii s pos hps ?_
      simp only [two, Bool.or_eq_true, beq_iff_eq] at ht
      rcases ht with e | e <;> rw [e] <;> assumption
    by_cases ht : two x y (s[pos]'hps) = true
    · have hd := hyes ht
      have hi2 : isTwo x y ((Utf8.decode s pos).1 : Int) = true := by rw [hd, isTwo_byte]; exact ht
      rw [hi2] at hc6
      rw [hd] at hkw6
      refine gets_run tab_ok 60 hc6 (holds_of (obs := []) (by kernel_rfl) trivial) (fun a7 w7 hc7 => ?_)
      replace hc7 := hc7.pickx [(0, .e (.c (.str s))), (1, .e (.c (.str ({ data := #[x, y] })))), (5, .e (.c (.int .i64 ((↑pos : Int))))), (6, .e (.c (.int .i32 ((↑(Prod.fst (Utf8.decode s pos)) : Int))))), (7, .e (.c (.bool true))), (11, .e (.c (.rp ⟨k, 0, none⟩))), (17, .e (.c (.rp ⟨(Array.size (World.heap w3)), 0, none⟩))), (18, .t [.c (.bool false)]), (19, .e (.c (.bool false))), (27, .e (.c (.bool true))), (28, .e (.c (.bool false)))] [] [] (by kernel_rfl) (by kernel_rfl)
      have hn7 := (Over.env w6 _).rel hc7.mem
      have hc7' := (hc7.pick [(0, .e (.c (.str s))), (1, .e (.c (.str ⟨#[x, y]⟩))), (11, .e (.c (.rp ⟨k, 0, none⟩)))] [] (by kernel_rfl) (by kernel_rfl)).plain B (by kernel_rfl)
      refine gets_loop (k' := clH) (by kernel_rfl) ?_
      refine ih (pos + 1) w7 a7 (by omega) (by rw [hn7.block _ (lt_of_block hkw6)]; exact hkw6) (hN6.trans hn7) (fun i hi b hib => ?_) hc7'
      rcases Nat.lt_or_ge i pos with h | h
      · exact hin i h b hib
      · have : i = pos := by omega
        subst this
        rw [hb] at hib
        cases hib
        exact ht
    · have hi2 : isTwo x y ((Utf8.decode s pos).1 : Int) = false := by
        by_cases ha : (s[pos]'hps).toNat < 128
        · rw [decode_ascii s pos hps ha, isTwo_byte]; simpa using ht
        · exact isTwo_high x y hx hy _ (decode_high s pos hps (by omega)).1
      rw [hi2] at hc6
      have o1 : 0 ≤ (pos : Int) ∧ (pos : Int) ≤ (s.size : Int) := by omega
      refine gets_run tab_ok 60 hc6 (holds_of (obs := [fun _ => True ∧ (0 : Int) ≤ (↑pos : Int) ∧ (↑pos : Int) ≤ (↑(hiOf none (ByteArray.size s)) : Int)]) (by kernel_rfl) ⟨⟨trivial, o1⟩, trivial⟩) (fun a7 w7 hc7 => ?_)
      replace hc7 := hc7.pickx [(0, .e (.c (.str s))), (1, .e (.c (.str ({ data := #[x, y] })))), (4, .e (.c (.str (ByteArray.extract s (loOf (some (↑pos : Int))) (hiOf none (ByteArray.size s)))))), (5, .e (.c (.int .i64 ((↑pos : Int))))), (6, .e (.c (.int .i32 ((↑(Prod.fst (Utf8.decode s pos)) : Int))))), (7, .e (.c (.bool false))), (11, .e (.c (.rp ⟨k, 0, none⟩))), (17, .e (.c (.rp ⟨(Array.size (World.heap w3)), 0, none⟩))), (18, .t [.c (.bool false)]), (19, .e (.c (.bool false))), (27, .e (.c (.bool false))), (28, .e (.c (.bool true))), (29, .e (.c (.str s))), (30, .e (.c (.int .i64 ((↑pos : Int))))), (31, .e (.c (.str (ByteArray.extract s (loOf (some (↑pos : Int))) (hiOf none (ByteArray.size s))))))] [] [] (by kernel_rfl) (by kernel_rfl)
      have hcut : cutL x y s = s.extract pos s.size := by
        unfold cutL
        have hsplit : s.data.toList = s.data.toList.take pos ++ s.data.toList.drop pos := (List.take_append_drop pos _).symm
        have h1 : s.data.toList.dropWhile (two x y) = s.data.toList.drop pos := by
          conv => lhs; rw [hsplit]
          rw [List.dropWhile_append_of_pos (fun b hbm => by
            obtain ⟨i, hi⟩ := List.getElem?_of_mem hbm
            have hil := (List.getElem?_eq_some_iff.1 hi).1
            rw [List.length_take] at hil
            rw [List.getElem?_take_of_lt (by omega)] at hi
            exact hin i (by omega) b hi)]
          have hne : s.data.toList.drop pos = (s[pos]'hps) :: s.data.toList.drop (pos + 1) := by
            rw [List.drop_eq_getElem_cons (by omega)]; rfl
          rw [hne, List.dropWhile_cons_of_neg ht]
        rw [h1]
        apply ByteArray.ext
        apply Array.ext'
        simp [ByteArray.data_extract]
        exact (List.take_of_length_le (by rw [List.length_drop]; omega)).symm
      rw [hcut]
      exact gets_fin tab_ok (l := [.c (.str (s.extract pos s.size))]) hc7 Tryz.func137 (by kernel_rfl) (by kernel_rfl) ⟨rfl, hN6.trans ((Over.env w6 _).rel hc7.mem), trivial⟩

theorem cutLeft_calls {B : Bd} (w : World) (s : ByteArray) (x y : UInt8) (hx : x.toNat < 128) (hy : y.toNat < 128) : Calls Tryz.prog 137 #[.string s, .string ⟨#[x, y]⟩] w (Gives (.string (cutL x y s)) (fun _ => True) w) := by
  refine enter (B := B) tab_ok [.e (.c (.str s)), .e (.c (.str ⟨#[x, y]⟩))] [] [] 20 Tryz.func137 rfl rfl rfl (obs := []) (by kernel_rfl) trivial (fun a1 w1 hc1 => ?_)
  have hn1 := (Over.env w (sro B w)).rel hc1.mem
  replace hc1 := hc1.pickx [(0, .e (.c (.str s))), (1, .e (.c (.str ⟨#[x, y]⟩))), (10, .e (.c (.str s)))] [] [] (by kernel_rfl) (by kernel_rfl)
  have hc1' := hc1.plain B (by kernel_rfl)
  refine gets_iter 11 10 s 0 hc1' (by kernel_rfl) (by kernel_rfl) (by kernel_rfl) (by kernel_rfl) (fun a2 w2 hn2 hlt2 hk2 hc2 => ?_)
  refine gets_run tab_ok 20 hc2 (holds_of (obs := []) (by kernel_rfl) trivial) (fun a3 w3 hc3 => ?_)
  replace hc3 := hc3.pickx [(0, .e (.c (.str s))), (1, .e (.c (.str ({ data := #[x, y] })))), (11, .e (.c (.rp ⟨(Array.size (World.heap w1)), 0, none⟩)))] [] [] (by kernel_rfl) (by kernel_rfl)
  have hn3 := (Over.env w2 _).rel hc3.mem
  have hc3' := hc3.plain B (by kernel_rfl)
  refine gets_loop (k' := clH) (by kernel_rfl) ?_
  exact cl_loop s x y hx hy w1.heap.size w hn1.size s.size 0 w3 a3 (by omega) (by rw [hn3.block _ hlt2]; exact hk2) ((hn1.trans hn2).trans hn3) (fun i hi => by omega) hc3'

end Go.Proofs.YtoihipolfdhhnaaGreatDoor

namespace Go.Proofs.YtoihipolfdhhnaaGreatDoor

noncomputable def cr0 : List Item := (run Tab Tryz.f136.ntmps 20 (code Tryz.f136) (ini [.e (.c (.str ⟨#[]⟩)), .e (.c (.str ⟨#[]⟩))] [] [])).1
noncomputable def crH : List Item := (loopX cr0).getD []

theorem cutRight_empty {B : Bd} (w : World) (set : ByteArray) : Calls Tryz.prog 136 #[.string ⟨#[]⟩, .string set] w (Gives (.string ⟨#[]⟩) (fun _ => True) w) := by
  refine enter (B := B) tab_ok [.e (.c (.str ⟨#[]⟩)), .e (.c (.str set))] [] [] 20 Tryz.func136 rfl rfl rfl (obs := []) (by kernel_rfl) trivial (fun a1 w1 hc1 => ?_)
  have hn1 := (Over.env w (sro B w)).rel hc1.mem
  replace hc1 := hc1.pickx [(0, .e (.c (.str ⟨#[]⟩))), (1, .e (.c (.str set)))] [] [] (by kernel_rfl) (by kernel_rfl)
  have hc1' := hc1.plain B (by kernel_rfl)
  refine gets_loop (k' := crH) (by kernel_rfl) ?_
  refine gets_run tab_ok 60 (hc1'.feed [false] []) (holds_of (obs := [fun _ => decide ((↑(ByteArray.size { data := #[] }) : Int) > (0 : Int)) = false]) (by kernel_rfl) ⟨rfl, trivial⟩) (fun a2 w2 hc2 => ?_)
  replace hc2 := hc2.pickx [(4, .e (.c (.str ⟨#[]⟩)))] [] [] (by kernel_rfl) (by kernel_rfl)
  exact gets_fin tab_ok (l := [.c (.str ⟨#[]⟩)]) hc2 Tryz.func136 (by kernel_rfl) (by kernel_rfl) ⟨rfl, hn1.trans ((Over.env w1 _).rel hc2.mem), trivial⟩

noncomputable def fl0 : List Item := (run Tab Tryz.f87.ntmps 20 (code Tryz.f87) (ini [.e (.c (.sl none 0 0)), .e (.c (.str ⟨#[]⟩))] [] [])).1
noncomputable def flH : List Item := (loopX fl0).getD []

/-- What flags comes to. -/
def GivesF (B : Bd) (v : Option (ByteArray × List ByteArray)) (w : World) (e : Ending) (w' : World) : Prop :=
  New w w' ∧ match v with
    | some (has, rest) => ∃ a n c, e = .returned (.tuple #[.string has, .slice a n c, .bool true]) ∧ StrsAt B w' a n c rest
    | none => e = .returned (.tuple #[.string ⟨#[]⟩, .slice none 0 0, .bool false])

theorem dash_size : (⟨#[45]⟩ : ByteArray).size = 1 := rfl

theorem cutL_all {x y : UInt8} {s : ByteArray} (h : s.data.toList.all (two x y) = true) : cutL x y s = ⟨#[]⟩ := by
  unfold cutL
  rw [dropWhile_all _ _ (fun b hb => List.all_eq_true.1 h b hb)]

theorem extract_tail (s : ByteArray) : (s.extract 1 s.size).data.toList = s.data.toList.tail := by
  simp [ByteArray.data_extract]
  have hlen : s.data.toList.length = s.size := by simp
  exact List.take_of_length_le (by rw [List.length_tail]; omega)

theorem begins_size {s : ByteArray} (h : beginsWith s ⟨#[45]⟩ = true) : 1 ≤ s.size := by
  unfold beginsWith at h
  split at h
  · assumption
  · cases h

theorem fl_loop {B : Bd} (x y : UInt8) (hx : x.toNat < 128) (hy : y.toNat < 128) (w0 : World) : ∀ (l : List ByteArray) (has : ByteArray) (v : ByteArray × List ByteArray) (w : World) (a : Act) (ap : Option Addr) (n c : Nat), flagsG x y l has = some v → StrsAt B w ap n c l → New w0 w → has.size + (l.map ByteArray.size).sum ≤ 9223372036854775807 →
    CRel (env0 B w) Tryz.f87.ntmps { tl := [(0, .e (.c (.sl ap n c))), (1, .e (.c (.str ⟨#[x, y]⟩))), (4, .e (.c (.str has)))], bs := [] } a w → Gets Tryz.prog 87 flH a w (GivesF B (some v) w0) := by
  intro l
  induction l with
  | nil =>
    intro has v w a ap n c hv hl hN hsz hc
    simp only [flagsG, Option.some.injEq] at hv
    subst hv
    have hn : n = 0 := hl.len
    subst hn
    refine gets_run tab_ok 60 (hc.feed [false] []) (holds_of (obs := [fun _ => decide ((↑(0 : Nat) : Int) > (0 : Int)) = false]) (by kernel_rfl) ⟨rfl, trivial⟩) (fun a1 w1 hc1 => ?_)
    replace hc1 := hc1.pickx [(4, .e (.c (.str has))), (5, .e (.c (.sl ap 0 c))), (6, .e (.c (.bool true)))] [] [] (by kernel_rfl) (by kernel_rfl)
    have hn1 := (Over.env w _).rel hc1.mem
    exact gets_fin tab_ok (l := [.c (.str has), .c (.sl ap 0 c), .c (.bool true)]) hc1 Tryz.func87 (by kernel_rfl) (by kernel_rfl) ⟨hN.trans hn1, ap, 0, c, rfl, hl.keep (hn1.keep B)⟩
  | cons s l ih =>
    intro has v w a ap n c hv hl hN hsz hc
    have hn : n = l.length + 1 := hl.len
    obtain ⟨ad, rfl, g1, g2⟩ := hl.at_ 0 s rfl
    have hS : sro B w (ad.add ((0 : Int).toNat * 1)) = some (.string s) := sro_of (by rw [addr_add_block]; exact g2) g1
    have hin : 0 ≤ (0 : Int) ∧ (0 : Int) < (n : Int) := by omega
    have o1 : decide ((n : Int) > 0) = true := by simp; omega
    simp only [List.map_cons, List.sum_cons] at hsz
    refine gets_run tab_ok 60 (hc.feed [true] [.e (.c (.str s))]) (holds_of (obs := [fun _ => decide ((↑n : Int) > (0 : Int)) = true, fun _ => (0 : Int) ≤ (0 : Int) ∧ (0 : Int) < (↑n : Int), fun ε => Env.ro ε (Addr.add ad (Int.toNat (0 : Int) * (1 : Nat))) = some (Value.string s)]) (by kernel_rfl) ⟨o1, hin, hS, trivial⟩) (fun a1 w1 hc1 => ?_)
    replace hc1 := hc1.pickx [(0, .e (.c (.sl (some ad) n c))), (1, .e (.c (.str ({ data := #[x, y] })))), (4, .e (.c (.str has))), (7, .e (.c (.sl (some ad) n c))), (8, .e (.c (.int .i64 ((↑n : Int))))), (9, .e (.c (.bool true))), (10, .e (.c (.bool true))), (11, .e (.c (.sl (some ad) n c))), (12, .e (.c (.rp (Addr.add ad (Int.toNat (0 : Int) * (1 : Nat)))))), (13, .e (.c (.str s)))] [] [] (by kernel_rfl) (by kernel_rfl)
    have hov1 := Over.env w (sro B w)
    refine gets_pure (Q := fun _ => True) (c := ⟨135, [.c (.str s), .c (.str ⟨#[45]⟩)], [], #[]⟩) 14 (.e (.c (.bool (beginsWith s ⟨#[45]⟩)))) [] [] hc1 (by kernel_rfl) (by kernel_rfl) (by kernel_rfl) (by kernel_rfl) (prefix_calls (B := B) w1 s ⟨#[45]⟩) (by kernel_rfl) (by kernel_rfl) (fun a2 w2 hn2 _ hc2 => ?_)
    have hov2 := hov1.next hc1.mem hn2 (sro B w)
    cases hbg : beginsWith s ⟨#[45]⟩ with
    | false =>
      simp only [flagsG, hbg, Bool.false_eq_true, if_false, Option.some.injEq] at hv
      subst hv
      rw [hbg] at hc2
      refine gets_run tab_ok 60 hc2 (holds_of (obs := []) (by kernel_rfl) trivial) (fun a3 w3 hc3 => ?_)
      replace hc3 := hc3.pickx [(4, .e (.c (.str has))), (5, .e (.c (.sl (some ad) n c))), (6, .e (.c (.bool true)))] [] [] (by kernel_rfl) (by kernel_rfl)
      have hn3 := hov2.rel hc3.mem
      exact gets_fin tab_ok (l := [.c (.str has), .c (.sl (some ad) n c), .c (.bool true)]) hc3 Tryz.func87 (by kernel_rfl) (by kernel_rfl) ⟨hN.trans hn3, some ad, n, c, rfl, hl.keep (hn3.keep B)⟩
    | true =>
      simp only [flagsG, hbg, if_true] at hv
      rw [hbg] at hc2
      have hr : right x y s = true := by
        by_cases hr : right x y s = true
        · exact hr
        · rw [if_neg hr] at hv; cases hv
      rw [if_pos hr] at hv
      simp only [right, Bool.and_eq_true, Bool.not_eq_true'] at hr
      have hs1 := begins_size hbg
      have o2 : (s.toList == (⟨#[45]⟩ : ByteArray).toList) = false := by rw [ByteArray.toList_eq ⟨#[45]⟩]; exact hr.1
      have o3 : 0 ≤ (1 : Int) ∧ (1 : Int) ≤ (s.size : Int) := by omega
      refine gets_run tab_ok 90 (hc2.feed [false] [.e (.c (.str s)), .e (.c (.str s))]) (holds_of (obs := [fun _ => (0 : Int) ≤ (0 : Int) ∧ (0 : Int) < (↑n : Int), fun ε => Env.ro ε (Addr.add ad (Int.toNat (0 : Int) * (1 : Nat))) = some (Value.string s), fun _ => (ByteArray.toList s == ByteArray.toList { data := #[(45 : UInt8)] }) = false, fun _ => (0 : Int) ≤ (0 : Int) ∧ (0 : Int) < (↑n : Int), fun ε => Env.ro ε (Addr.add ad (Int.toNat (0 : Int) * (1 : Nat))) = some (Value.string s), fun _ => True ∧ (0 : Int) ≤ (1 : Int) ∧ (1 : Int) ≤ (↑(hiOf none (ByteArray.size s)) : Int)]) (by kernel_rfl) ⟨hin, hS, o2, hin, hS, ⟨trivial, o3⟩, trivial⟩) (fun a3 w3 hc3 => ?_)
      replace hc3 := hc3.pickx [(0, .e (.c (.sl (some ad) n c))), (1, .e (.c (.str ({ data := #[x, y] })))), (4, .e (.c (.str has))), (7, .e (.c (.sl (some ad) n c))), (8, .e (.c (.int .i64 ((↑n : Int))))), (9, .e (.c (.bool true))), (10, .e (.c (.bool true))), (11, .e (.c (.sl (some ad) n c))), (12, .e (.c (.rp (Addr.add ad (Int.toNat (0 : Int) * (1 : Nat)))))), (13, .e (.c (.str s))), (14, .e (.c (.bool true))), (15, .e (.c (.bool true))), (16, .e (.c (.sl (some ad) n c))), (17, .e (.c (.rp (Addr.add ad (Int.toNat (0 : Int) * (1 : Nat)))))), (18, .e (.c (.str s))), (19, .e (.c (.bool false))), (20, .e (.c (.bool false))), (21, .e (.c (.sl (some ad) n c))), (22, .e (.c (.rp (Addr.add ad (Int.toNat (0 : Int) * (1 : Nat)))))), (23, .e (.c (.str s))), (24, .e (.c (.str (ByteArray.extract s (loOf (some (1 : Int))) (hiOf none (ByteArray.size s)))))), (25, .e (.c (.str ({ data := #[x, y] }))))] [] [] (by kernel_rfl) (by kernel_rfl)
      have hall : (s.extract 1 s.size).data.toList.all (two x y) = true := by rw [extract_tail]; exact hr.2
      have hl137 := cutLeft_calls (B := B) w3 (s.extract 1 s.size) x y hx hy
      rw [cutL_all hall] at hl137
      refine gets_pure (Q := fun _ => True) (c := ⟨137, [.c (.str (s.extract 1 s.size)), .c (.str ⟨#[x, y]⟩)], [], #[]⟩) 26 (.e (.c (.str ⟨#[]⟩))) [] [] hc3 (by kernel_rfl) (by kernel_rfl) (by kernel_rfl) (by kernel_rfl) hl137 (by kernel_rfl) (by kernel_rfl) (fun a4 w4 hn4 _ hc4 => ?_)
      have hov4 := hov2.next hc3.mem hn4 (sro B w)
      refine gets_run tab_ok 60 hc4 (holds_of (obs := []) (by kernel_rfl) trivial) (fun a5 w5 hc5 => ?_)
      replace hc5 := hc5.pickx [(0, .e (.c (.sl (some ad) n c))), (1, .e (.c (.str ({ data := #[x, y] })))), (4, .e (.c (.str has))), (7, .e (.c (.sl (some ad) n c))), (8, .e (.c (.int .i64 ((↑n : Int))))), (9, .e (.c (.bool true))), (10, .e (.c (.bool true))), (11, .e (.c (.sl (some ad) n c))), (12, .e (.c (.rp (Addr.add ad (Int.toNat (0 : Int) * (1 : Nat)))))), (13, .e (.c (.str s))), (14, .e (.c (.bool true))), (15, .e (.c (.bool true))), (16, .e (.c (.sl (some ad) n c))), (17, .e (.c (.rp (Addr.add ad (Int.toNat (0 : Int) * (1 : Nat)))))), (18, .e (.c (.str s))), (19, .e (.c (.bool false))), (20, .e (.c (.bool false))), (21, .e (.c (.sl (some ad) n c))), (22, .e (.c (.rp (Addr.add ad (Int.toNat (0 : Int) * (1 : Nat)))))), (23, .e (.c (.str s))), (24, .e (.c (.str (ByteArray.extract s (loOf (some (1 : Int))) (hiOf none (ByteArray.size s)))))), (25, .e (.c (.str ({ data := #[x, y] })))), (26, .e (.c (.str ⟨#[]⟩))), (27, .e (.c (.str ({ data := #[x, y] }))))] [] [] (by kernel_rfl) (by kernel_rfl)
      refine gets_pure (Q := fun _ => True) (c := ⟨136, [.c (.str ⟨#[]⟩), .c (.str ⟨#[x, y]⟩)], [], #[]⟩) 28 (.e (.c (.str ⟨#[]⟩))) [] [] hc5 (by kernel_rfl) (by kernel_rfl) (by kernel_rfl) (by kernel_rfl) (cutRight_empty (B := B) w5 ⟨#[x, y]⟩) (by kernel_rfl) (by kernel_rfl) (fun a6 w6 hn6 _ hc6 => ?_)
      have hov6 := hov4.next hc5.mem hn6 (sro B w)
      have hxs : (s.extract 1 s.size).size = s.size - 1 := by rw [ByteArray.size_extract]; omega
      have o4 : ((has.size + (s.extract 1 s.size).size : Nat) : Int) ≤ 9223372036854775807 := by omega
      have hcap := hl.cap
      have o5 : 0 ≤ (1 : Int) ∧ (1 : Int) ≤ (n : Int) := by omega
      have hqq : (!((⟨#[]⟩ : ByteArray).toList == (⟨#[]⟩ : ByteArray).toList)) = false := by rw [ByteArray.toList_eq]; rfl
      refine gets_run tab_ok 120 (hc6.feed [false] [.e (.c (.str s))]) (holds_of (obs := [fun _ => (!ByteArray.toList { data := #[] } == ByteArray.toList { data := #[] }) = false, fun _ => (0 : Int) ≤ (0 : Int) ∧ (0 : Int) < (↑n : Int), fun ε => Env.ro ε (Addr.add ad (Int.toNat (0 : Int) * (1 : Nat))) = some (Value.string s), fun _ => True ∧ (0 : Int) ≤ (1 : Int) ∧ (1 : Int) ≤ (↑(hiOf none (ByteArray.size s)) : Int), fun _ => (↑(ByteArray.size has + ByteArray.size (ByteArray.extract s (loOf (some (1 : Int))) (hiOf none (ByteArray.size s)))) : Int) ≤ (9223372036854775807 : Int), fun _ => True ∧ (0 : Int) ≤ (1 : Int) ∧ (1 : Int) ≤ (↑(hiOf none n) : Int)]) (by kernel_rfl) ⟨hqq, hin, hS, ⟨trivial, o3⟩, o4, ⟨trivial, o5⟩, trivial⟩) (fun a7 w7 hc7 => ?_)
      replace hc7 := hc7.pickx [(0, .e (.c (.sl (if c = loOf (some (1 : Int)) then some ad else Option.map (fun (x : Addr) => Addr.add x (loOf (some (1 : Int)) * (1 : Nat))) (some ad)) (hiOf none n - loOf (some (1 : Int))) (c - loOf (some (1 : Int)))))), (1, .e (.c (.str ({ data := #[x, y] })))), (4, .e (.c (.str (has ++ ByteArray.extract s (loOf (some (1 : Int))) (hiOf none (ByteArray.size s)))))), (7, .e (.c (.sl (some ad) n c))), (8, .e (.c (.int .i64 ((↑n : Int))))), (9, .e (.c (.bool true))), (10, .e (.c (.bool true))), (11, .e (.c (.sl (some ad) n c))), (12, .e (.c (.rp (Addr.add ad (Int.toNat (0 : Int) * (1 : Nat)))))), (13, .e (.c (.str s))), (14, .e (.c (.bool true))), (15, .e (.c (.bool true))), (16, .e (.c (.sl (some ad) n c))), (17, .e (.c (.rp (Addr.add ad (Int.toNat (0 : Int) * (1 : Nat)))))), (18, .e (.c (.str s))), (19, .e (.c (.bool false))), (20, .e (.c (.bool false))), (21, .e (.c (.sl (some ad) n c))), (22, .e (.c (.rp (Addr.add ad (Int.toNat (0 : Int) * (1 : Nat)))))), (23, .e (.c (.str s))), (24, .e (.c (.str (ByteArray.extract s (loOf (some (1 : Int))) (hiOf none (ByteArray.size s)))))), (25, .e (.c (.str ({ data := #[x, y] })))), (26, .e (.c (.str ⟨#[]⟩))), (27, .e (.c (.str ({ data := #[x, y] })))), (28, .e (.c (.str ⟨#[]⟩))), (29, .e (.c (.bool false))), (30, .e (.c (.bool false))), (31, .e (.c (.str has))), (32, .e (.c (.sl (some ad) n c))), (33, .e (.c (.rp (Addr.add ad (Int.toNat (0 : Int) * (1 : Nat)))))), (34, .e (.c (.str s))), (35, .e (.c (.str (ByteArray.extract s (loOf (some (1 : Int))) (hiOf none (ByteArray.size s)))))), (36, .e (.c (.str (has ++ ByteArray.extract s (loOf (some (1 : Int))) (hiOf none (ByteArray.size s)))))), (37, .e (.c (.sl (some ad) n c))), (38, .e (.c (.sl (if c = loOf (some (1 : Int)) then some ad else Option.map (fun (x : Addr) => Addr.add x (loOf (some (1 : Int)) * (1 : Nat))) (some ad)) (hiOf none n - loOf (some (1 : Int))) (c - loOf (some (1 : Int))))))] [] [] (by kernel_rfl) (by kernel_rfl)
      have hn7 := hov6.rel hc7.mem
      have hc8 := (hc7.pick [(0, .e (.c (.sl (if c = 1 then some ad else (some ad).map (·.add (1 * 1))) (n - 1) (c - 1)))), (1, .e (.c (.str ⟨#[x, y]⟩))), (4, .e (.c (.str (has ++ s.extract 1 s.size))))] [] (by kernel_rfl) (by kernel_rfl)).plain B (by kernel_rfl)
      refine gets_loop (k' := flH) (by kernel_rfl) ?_
      exact ih _ v w7 a7 _ _ _ hv ((hl.keep (hn7.keep B)).tail) (hN.trans hn7) (by rw [ByteArray.size_append]; omega) hc8

theorem flags_calls {B : Bd} (w : World) (x y : UInt8) (hx : x.toNat < 128) (hy : y.toNat < 128) (l : List ByteArray) (ap : Option Addr) (n c : Nat) (v : ByteArray × List ByteArray) (hv : flagsG x y l ⟨#[]⟩ = some v) (hl : StrsAt B w ap n c l) (hsz : (l.map ByteArray.size).sum ≤ 9223372036854775807) :
    Calls Tryz.prog 87 #[.slice ap n c, .string ⟨#[x, y]⟩] w (GivesF B (some v) w) := by
  refine enter (B := B) tab_ok [.e (.c (.sl ap n c)), .e (.c (.str ⟨#[x, y]⟩))] [] [] 20 Tryz.func87 rfl rfl rfl (obs := []) (by kernel_rfl) trivial (fun a1 w1 hc1 => ?_)
  have hn1 := (Over.env w (sro B w)).rel hc1.mem
  replace hc1 := hc1.pickx [(0, .e (.c (.sl ap n c))), (1, .e (.c (.str ⟨#[x, y]⟩))), (4, .e (.c (.str ⟨#[]⟩)))] [] [] (by kernel_rfl) (by kernel_rfl)
  refine gets_loop (k' := flH) (by kernel_rfl) ?_
  have hz : (⟨#[]⟩ : ByteArray).size = 0 := rfl
  exact fl_loop x y hx hy w l ⟨#[]⟩ v w1 a1 ap n c hv (hl.keep (hn1.keep B)) hn1 (by omega) (hc1.plain B (by kernel_rfl))

theorem rm_word {has : ByteArray} : EOk (.rm has) := fun {_} {_} {_} {_} s f c hm hk hok => rm1_calls hm has s f c hk hok

theorem rm_calls {B : Bd} {w : World} {b : Nat} {m : M} (hm : MOk B w b m) (l : List ByteArray) (a : Option Addr) (n cp : Nat) (hl : StrsAt B w a n cp l) (hok : okRm l m) :
    Calls Tryz.prog 46 #[bp b, .slice a n cp] w (Does B b w (runRm l m)) := by
  unfold okRm at hok
  unfold runRm
  cases hv : flagsG 102 114 l ⟨#[]⟩ with
  | none => rw [hv] at hok; exact hok.elim
  | some v =>
    obtain ⟨has, rest⟩ := v
    rw [hv] at hok
    obtain ⟨hs, hsz, hok⟩ := hok
    show Calls Tryz.prog 46 #[bp b, .slice a n cp] w (Does B b w (if rest = [] ∧ holdsB has 102 = false then m.wrong else runEach rest (.rm has) m))
    refine enter (B := B) tab_ok [.e (.c (.rp ⟨b, 0, none⟩)), .e (.c (.sl a n cp))] [] [] 20 Tryz.func46 rfl rfl rfl (obs := []) (by kernel_rfl) trivial (fun a1 w1 hc1 => ?_)
    have hn1 := (Over.env w (sro B w)).rel hc1.mem
    replace hc1 := hc1.pickx [(0, .e (.c (.rp ⟨b, 0, none⟩))), (7, .e (.c (.sl a n cp)))] [] [] (by kernel_rfl) (by kernel_rfl)
    have hc1' := hc1.plain B (by kernel_rfl)
    refine gets_call (c := ⟨87, [.c (.sl a n cp), .c (.str ⟨#[102, 114]⟩)], [], #[]⟩) hc1' (by kernel_rfl) (by kernel_rfl) (flags_calls (B := B) w1 102 114 (by decide) (by decide) l a n cp (has, rest) hv (hl.keep (hn1.keep B)) hsz) (fun e w2 ⟨hn2, a', n', c', he, hl2⟩ => ⟨_, he, ?_⟩)
    have hN2 := hn1.trans hn2
    have hdst : dstX (run Tab Tryz.f46.ntmps 20 (code Tryz.f46) (ini [.e (.c (.rp ⟨b, 0, none⟩)), .e (.c (.sl a n cp))] [] [])).1 = some 8 := by kernel_rfl
    rw [hdst]
    have hc2 := hc1'.over (w' := w2) (by kernel_rfl) 8 (.t [.c (.str has), .c (.sl a' n' c'), .c (.bool true)]) (by kernel_rfl)
    obtain ⟨hm2, he2⟩ := hm.fresh hN2
    have hov2 := Over.env w2 (sro B w2)
    refine gets_evo he2 ?_
    replace hc2 : CRel (env0 B w2) Tryz.f46.ntmps { tl := [(8, .t [.c (.str has), .c (.sl a' n' c'), .c (.bool true)]), (0, .e (.c (.rp ⟨b, 0, none⟩))), (7, .e (.c (.sl a n cp)))], bs := [] } (a1.put (some 8) (.tuple #[.string has, .slice a' n' c', .bool true])) w2 := hc2
    have hn' := hl2.len
    by_cases hr : rest = []
    · have hn0 : n' = 0 := by rw [hn', hr]; rfl
      subst hn0
      have o1 : (((0 : Nat) : Int) == 0) = true := rfl
      refine gets_run tab_ok 60 (hc2.feed [true] []) (holds_of (obs := [fun _ => ((↑(0 : Nat) : Int) == (0 : Int)) = true]) (by kernel_rfl) ⟨rfl, trivial⟩) (fun a3 w3 hc3 => ?_)
      replace hc3 := hc3.pickx [(0, .e (.c (.rp ⟨b, 0, none⟩))), (1, .e (.c (.sl a' 0 c'))), (4, .e (.c (.p 0 0))), (14, .e (.c (.bool false))), (18, .e (.c (.bool true))), (19, .e (.c (.str has)))] [⟨9, [.str has]⟩] [] (by kernel_rfl) (by kernel_rfl)
      cases hb : holdsB has 102 with
      | true =>
        rw [if_neg (by simp), hr]
        refine gets_pure (Q := fun _ => True) (c := ⟨88, [.c (.str has), .c (.str ⟨#[102]⟩)], [], #[]⟩) 20 (.e (.c (.bool true))) [] [] hc3 (by kernel_rfl) (by kernel_rfl) (by kernel_rfl) (by kernel_rfl) (by have := contains_calls w3 has 102; rw [hb] at this; exact this) (by kernel_rfl) (by kernel_rfl) (fun a4 w4 hn4 _ hc4 => ?_)
        have hov4 := hov2.next hc3.mem hn4 (sro B w2)
        refine gets_run tab_ok 60 hc4 (holds_of (obs := []) (by kernel_rfl) trivial) (fun a5 w5 hc5 => ?_)
        replace hc5 := hc5.pickx [(26, .e (.c (.rp ⟨b, 0, none⟩))), (27, .e (.c (.sl a' 0 c'))), (28, .e (.c (.f 89 [.n 0 0])))] [⟨9, [.str has]⟩] [] (by kernel_rfl) (by kernel_rfl)
        refine gets_last (bs := [⟨9, [.str has]⟩]) (c := ⟨77, [.c (.rp ⟨b, 0, none⟩), .c (.sl a' 0 c'), .c (.f 89 [.n 0 0])], [], #[]⟩) hm2 hov4 hc5 rfl (by kernel_rfl) (by kernel_rfl) Tryz.func46 rfl (by kernel_rfl) (fun hr6 hm6 _ => ?_)
        exact each_nil hm6 a' c' 89 _
      | false =>
        rw [if_pos ⟨hr, rfl⟩]
        refine gets_pure (Q := fun _ => True) (c := ⟨88, [.c (.str has), .c (.str ⟨#[102]⟩)], [], #[]⟩) 20 (.e (.c (.bool false))) [] [] hc3 (by kernel_rfl) (by kernel_rfl) (by kernel_rfl) (by kernel_rfl) (by have := contains_calls w3 has 102; rw [hb] at this; exact this) (by kernel_rfl) (by kernel_rfl) (fun a4 w4 hn4 _ hc4 => ?_)
        have hov4 := hov2.next hc3.mem hn4 (sro B w2)
        refine gets_run tab_ok 60 hc4 (holds_of (obs := []) (by kernel_rfl) trivial) (fun a5 w5 hc5 => ?_)
        replace hc5 := hc5.pickx [(0, .e (.c (.rp ⟨b, 0, none⟩))), (1, .e (.c (.sl a' 0 c'))), (4, .e (.c (.p 0 0))), (24, .e (.c (.rp ⟨b, 0, none⟩)))] [⟨9, [.str has]⟩] [] (by kernel_rfl) (by kernel_rfl)
        refine gets_last (bs := [⟨9, [.str has]⟩]) (c := ⟨84, [.c (.rp ⟨b, 0, none⟩)], [], #[]⟩) hm2 hov4 hc5 rfl (by kernel_rfl) (by kernel_rfl) Tryz.func46 rfl (by kernel_rfl) (fun hr6 hm6 _ => ?_)
        exact wrong_calls hm6 hs
    · rw [if_neg (by simp [hr])]
      have h0 : rest.length ≠ 0 := fun e => hr (List.length_eq_zero_iff.1 e)
      have o1 : ((n' : Int) == 0) = false := by rw [beq_eq_false_iff_ne]; omega
      refine gets_run tab_ok 60 (hc2.feed [false] []) (holds_of (obs := [fun _ => ((↑n' : Int) == (0 : Int)) = false]) (by kernel_rfl) ⟨o1, trivial⟩) (fun a3 w3 hc3 => ?_)
      replace hc3 := hc3.pickx [(26, .e (.c (.rp ⟨b, 0, none⟩))), (27, .e (.c (.sl a' n' c'))), (28, .e (.c (.f 89 [.n 0 0])))] [⟨9, [.str has]⟩] [] (by kernel_rfl) (by kernel_rfl)
      refine gets_last (bs := [⟨9, [.str has]⟩]) (c := ⟨77, [.c (.rp ⟨b, 0, none⟩), .c (.sl a' n' c'), .c (.f 89 [.n 0 0])], [], #[]⟩) hm2 hov2 hc3 rfl (by kernel_rfl) (by kernel_rfl) Tryz.func46 rfl (by kernel_rfl) (fun hr6 hm6 hk6 => ?_)
      exact each_calls hm6 rest a' n' c' (hl2.keep hk6) (.rm has) rm_word 89 _ ⟨rfl, w2.heap.size, rfl, box_of hm2.xs hr6 (i := 0) rfl rfl rfl⟩ hok

end Go.Proofs.YtoihipolfdhhnaaGreatDoor
