/-
  Functions that work for themselves and then call another one, as the last thing that they do.
-/
import Derived.Test.YtoihipolfdhhnaaGreatDoorClosA
namespace Go.Proofs.YtoihipolfdhhnaaGreatDoor

open Classical in
/-- What the machine never writes. -/
noncomputable def sro (B : Bd) (w : World) : Addr → Option Value := fun a => if Safe B w a.block then w.cell? a else none

theorem sro_le {B : Bd} {w : World} {a : Addr} {v : Value} (h : sro B w a = some v) : Safe B w a.block ∧ w.cell? a = some v := by
  unfold sro at h
  split at h
  · rename_i hs; exact ⟨hs, h⟩
  · cases h

theorem sro_of {B : Bd} {w : World} {a : Addr} {v : Value} (hs : Safe B w a.block) (h : w.cell? a = some v) : sro B w a = some v := by
  unfold sro; rw [if_pos hs]; exact h

theorem sro_keep {B : Bd} {w w' : World} (hk : Keep B w w') {a : Addr} {v : Value} (h : sro B w a = some v) : w'.cell? a = some v := by
  obtain ⟨h1, h2⟩ := sro_le h
  rw [World.cell?_of_block (hk.block _ (World.block_lt_of_cell? w a h2) h1)]; exact h2

/-- A box, read. -/
theorem Box.sro {B : Bd} {w : World} {k : Nat} {T : TypeId} {v : Value} (h : Box w k T v) (h1 : T ≠ 66 := by decide) (h2 : T ≠ 84 := by decide) (h3 : T ≠ 39 := by decide) (h4 : T ≠ 35 := by decide) : sro B w ⟨k, 0, none⟩ = some v :=
  sro_of (.inr ⟨_, _, _, h, h1, h2, h3, fun e => absurd e h4⟩) (by unfold Box at h; simp [World.cell?, h])

/-- No old block is named; all that the machine never writes may be read. -/
noncomputable abbrev env0 (B : Bd) (w : World) : Env := env w [] (sro B w)

def ini (args : List SV) (orc : List Bool) (ext : List SV) : St := { tl := tlOf 0 args, bs := [], orc := orc, ext := ext }

theorem enter {B : Bd} {P : Program} {T : TypeId → Option TI} (hT : Tabs P T) {f : FuncId} {fn : Func} {vals : Array Value} {w : World} {R : Ending → World → Prop} (args : List SV) (orc : List Bool) (ext : List SV) (n : Nat)
    (hf : P.funcs[f]? = some fn) (hb : fn.body.isSome = true) (hle : Nat.ble args.length fn.ntmps = true) (hvals : vals = (args.map (SV.real (env0 B w).ρ)).toArray) {obs : List (Env → Prop)}
    (ho : (run T fn.ntmps n (code fn) (ini args orc ext)).2.ob = obs) (hobs : AllP obs (env0 B w))
    (h : ∀ a' w', CRel (env0 B w) fn.ntmps (run T fn.ntmps n (code fn) (ini args orc ext)).2 a' w' → Gets P f (run T fn.ntmps n (code fn) (ini args orc ext)).1 a' w' R) : Calls P f vals w R := by
  refine calls_exec args [] [] (sro B w) hf hb hle hvals (rel_nil w _ (fun _ _ h => (sro_le h).2)) (fun a hc => ?_)
  have hc' : CRel (env0 B w) fn.ntmps (ini args orc ext) a w := ⟨hc.tl, hc.size, hc.defers, hc.mem⟩
  exact gets_run hT n hc' (holds_of ho hobs) h

theorem MOk.old {B : Bd} {w w' : World} {b : Nat} {m : M} {bs : List NB} (hm : MOk B w b m) (hrel : Rel (env0 B w) bs w') : MOk B w' b m ∧ Evo w b w' := hm.new hrel

/-- Own work, then one call. -/
theorem does_tail {B : Bd} {b : Nat} {w : World} {m m' : M} {f : FuncId} {fn : Func} {vals : Array Value} (args : List SV) (orc : List Bool) (ext : List SV) (n : Nat) (bs : List NB) (c : CallX) {obs : List (Env → Prop)}
    (hm : MOk B w b m) (hf : Tryz.prog.funcs[f]? = some fn) (hb : fn.body.isSome = true) (hle : Nat.ble args.length fn.ntmps = true) (hvals : vals = (args.map (SV.real (env0 B w).ρ)).toArray)
    (ho : (run Tab fn.ntmps n (code fn) (ini args orc ext)).2.ob = obs) (hbs : (run Tab fn.ntmps n (code fn) (ini args orc ext)).2.bs = bs)
    (hx : callX (run Tab fn.ntmps n (code fn) (ini args orc ext)).1 (run Tab fn.ntmps n (code fn) (ini args orc ext)).2 = some c)
    (hk : isFin (ctl 30 (popX (run Tab fn.ntmps n (code fn) (ini args orc ext)).1)) = true) (hr : fn.results = #[]) (he : enters Tryz.prog c.fn = true)
    (hobs : AllP obs (env0 B w)) (hcall : ∀ w1, Rel (env0 B w) bs w1 → MOk B w1 b m → Keep B w w1 → Calls Tryz.prog c.fn (c.real (env0 B w).ρ) w1 (Does B b w1 m')) : Calls Tryz.prog f vals w (Does B b w m') := by
  refine enter tab_ok args orc ext n hf hb hle hvals ho hobs (fun a1 w1 hc1 => ?_)
  have hmem := hc1.mem
  rw [hbs] at hmem
  obtain ⟨hm1, he1⟩ := hm.old hmem
  exact gets_tail (fun w' => MOk B w' b m' ∧ Evo w1 b w') hc1 hx he (hcall w1 hmem hm1 (he1.keep hm)) hf hr hk (fun w' h => ⟨rfl, h.1, he1.trans h.2⟩)

/-- Own work, then the end. -/
theorem does_end {B : Bd} {b : Nat} {w : World} {m : M} {f : FuncId} {fn : Func} {vals : Array Value} (args : List SV) (orc : List Bool) (ext : List SV) (n : Nat) (bs : List NB) {obs : List (Env → Prop)}
    (hm : MOk B w b m) (hf : Tryz.prog.funcs[f]? = some fn) (hb : fn.body.isSome = true) (hle : Nat.ble args.length fn.ntmps = true) (hvals : vals = (args.map (SV.real (env0 B w).ρ)).toArray)
    (ho : (run Tab fn.ntmps n (code fn) (ini args orc ext)).2.ob = obs) (hbs : (run Tab fn.ntmps n (code fn) (ini args orc ext)).2.bs = bs)
    (hk : isFin (ctl 30 (run Tab fn.ntmps n (code fn) (ini args orc ext)).1) = true) (hr : fn.results = #[])
    (hobs : AllP obs (env0 B w)) : Calls Tryz.prog f vals w (Does B b w m) := by
  refine enter tab_ok args orc ext n hf hb hle hvals ho hobs (fun a1 w1 hc1 => ?_)
  have hmem := hc1.mem
  rw [hbs] at hmem
  obtain ⟨hm1, he1⟩ := hm.old hmem
  exact gets_end0 hc1.defers hf hr hk ⟨rfl, hm1, he1⟩

def drawOps : List Item → Array Oper
  | .code (.region _ ops true) :: _ => ops
  | _ => #[]
def drawTail : List Item → List Item
  | .code (.region _ _ true) :: k => k
  | k => k
def isDraw : List Item → Bool
  | .code (.region _ ops true) :: _ => Region.noSelect ops
  | _ => false

def allBut (n : Nat) : Array Bool := (Array.replicate (n + 1) true).setIfInBounds n false

/-- What stands behind the reads of a drawn region. -/
def drw (fn : Func) (args : List SV) (orc : List Bool) (ext : List SV) (n q : Nat) : Option (Array Bool × St) :=
  dtake Tab fn.ntmps (drawOps (run Tab fn.ntmps n (code fn) (ini args orc ext)).1) (List.range q) (Array.replicate (q + 1) false) (run Tab fn.ntmps n (code fn) (ini args orc ext)).2

/-- Own work, then a region that reads in a drawn order and calls at its end. -/
theorem does_draw {B : Bd} {b : Nat} {w : World} {m m' : M} {f : FuncId} {fn : Func} {vals : Array Value} (args : List SV) (orc : List Bool) (ext : List SV) (n q : Nat) (bs : List NB) (c : CallX) {obs : List (Env → Prop)}
    (hm : MOk B w b m) (hf : Tryz.prog.funcs[f]? = some fn) (hb : fn.body.isSome = true) (hle : Nat.ble args.length fn.ntmps = true) (hvals : vals = (args.map (SV.real (env0 B w).ρ)).toArray)
    (hd : isDraw (run Tab fn.ntmps n (code fn) (ini args orc ext)).1 = true) (hq : (drawOps (run Tab fn.ntmps n (code fn) (ini args orc ext)).1).size = q + 1)
    (hdt : (drw fn args orc ext n q).map (fun x => (x.1, x.2.ob)) = some (allBut q, obs)) (hrd : Region.ready .any (drawOps (run Tab fn.ntmps n (code fn) (ini args orc ext)).1) (allBut q) = [q])
    (hrd2 : Region.ready .any (drawOps (run Tab fn.ntmps n (code fn) (ini args orc ext)).1) ((allBut q).setIfInBounds q true) = [])
    (hbs : (run Tab fn.ntmps n (code fn) (ini args orc ext)).2.bs = bs) (hts : (bs.all fun b => b.ty != 66 && b.ty != 84 && b.ty != 39) = true)
    (hx : (drw fn args orc ext n q).bind (fun x => callX [.inRegion (drawOps (run Tab fn.ntmps n (code fn) (ini args orc ext)).1) [q]] x.2) = some c)
    (hk : isFin (ctl 30 (drawTail (run Tab fn.ntmps n (code fn) (ini args orc ext)).1)) = true) (hr : fn.results = #[]) (he : enters Tryz.prog c.fn = true)
    (hobs : AllP obs (env0 B w)) (hcall : ∀ w1, Rel (env0 B w) bs w1 → MOk B w1 b m → Keep B w w1 → Calls Tryz.prog c.fn (c.real (env0 B w).ρ) w1 (Does B b w1 m')) : Calls Tryz.prog f vals w (Does B b w m') := by
  obtain ⟨l, σ2, hdt', ho⟩ : ∃ l σ2, drw fn args orc ext n q = some (l, σ2) ∧ l = allBut q ∧ σ2.ob = obs := by
    cases h : drw fn args orc ext n q with
    | none => rw [h] at hdt; cases hdt
    | some x =>
      rw [h] at hdt
      simp only [Option.map_some, Option.some.injEq, Prod.mk.injEq] at hdt
      exact ⟨x.1, x.2, rfl, hdt⟩
  obtain ⟨rfl, ho⟩ := ho
  rw [hdt'] at hx
  simp only [Option.bind_some] at hx
  clear hdt
  unfold drw at hdt'
  generalize hrun : run Tab fn.ntmps n (code fn) (ini args orc ext) = kσ at *
  obtain ⟨k, σ1⟩ := kσ
  simp only at hd hq hdt' hrd hrd2 hbs hx hk
  have hob2 : σ2.holds (env0 B w) := holds_of ho hobs
  have hob1 : σ1.holds (env0 B w) := fun p hp => hob2 p (dtake_ob _ _ _ _ _ hdt' p hp)
  refine calls_exec args [] [] (sro B w) hf hb hle hvals (rel_nil w _ (fun _ _ h => (sro_le h).2)) (fun a hc => ?_)
  have hc' : CRel (env0 B w) fn.ntmps (ini args orc ext) a w := ⟨hc.tl, hc.size, hc.defers, hc.mem⟩
  refine gets_run tab_ok n hc' (by rw [hrun]; exact hob1) (fun a1 w1 hc1 => ?_)
  rw [hrun] at hc1 ⊢
  simp only at hc1 ⊢
  unfold isDraw at hd
  split at hd
  · rename_i id ops k'
    simp only [drawOps, drawTail] at hq hdt' hrd hrd2 hx hk
    have hmem : Rel (env0 B w) bs { w1 with drawn := w1.drawn + 1 } := by have := hc1.mem.drew (w1.drawn + 1); rwa [hbs] at this
    obtain ⟨hm1, he1⟩ := hm.old hmem
    refine gets_draw (S := Sees (env0 B w) bs) (by kernel_rfl) ?_
    have hsz : ops.size = 1 + (List.range q).length := by rw [hq]; simp [Nat.add_comm]
    rw [hsz]
    have hrep : 1 + (List.range q).length = q + 1 := by simp [Nat.add_comm]
    have hrep2 : Array.replicate (1 + (List.range q).length) false = Array.replicate (q + 1) false := congrArg (fun n => Array.replicate n false) hrep
    rw [hrep2]
    refine dgets_take tab_ok hd hmem.sees _ _ _ _ _ _ hdt' hbs hc1.tl hc1.size hob2 (fun a2 h2 h3 h4 => ?_)
    refine dgets_call h2 hrd hx he (hcall _ hmem hm1 (he1.keep hm)) (fun e w' hS => ⟨.tuple #[], hS.1, ?_, ?_⟩)
    · have hk2 := (he1.trans hS.2.2)
      refine ⟨fun i nb hi => ?_, fun ad v hv => sro_keep (hk2.keep hm) hv⟩
      have hb1 := hmem.cells i nb hi
      have hty := List.all_eq_true.1 hts nb (List.mem_of_getElem? hi)
      simp only [Bool.and_eq_true, bne_iff_ne] at hty
      exact (hS.2.2.keep hm1).cells hb1 hty.1.1 hty.1.2 hty.2 (fun _ => hm.notx (Nat.le_add_right _ _))
    · refine dgets_done 0 hrd2 ?_
      refine gets_end0 (by rw [Act.put_defers', h4]; exact hc1.defers) hf hr hk ⟨rfl, hS.2.1, he1.trans hS.2.2⟩
  · cases hd

end Go.Proofs.YtoihipolfdhhnaaGreatDoor
