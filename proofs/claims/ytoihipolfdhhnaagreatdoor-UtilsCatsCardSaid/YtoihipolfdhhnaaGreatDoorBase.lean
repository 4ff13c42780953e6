/-
  Entering a function; the machine's own small steps: Push, Sys, Exit.
-/
import Derived.Test.YtoihipolfdhhnaaGreatDoorMach
namespace Go.Proofs.YtoihipolfdhhnaaGreatDoor

def code (f : Func) : List Item := [.code (f.body.getD .skip)]

def tlOf : Nat → List SV → List (Nat × SV)
  | _, [] => []
  | n, v :: l => (n, v) :: tlOf (n + 1) l

theorem lk_tlOf : ∀ (l : List SV) (n d : Nat), lk d (tlOf n l) = if n ≤ d then l[d - n]? else none
  | [], n, d => by simp [tlOf, lk]
  | v :: l, n, d => by
    simp only [tlOf, lk, lk_tlOf l (n + 1) d]
    by_cases h : n = d
    · subst h; simp
    · rw [if_neg h]
      by_cases h2 : n ≤ d
      · rw [if_pos (by omega), if_pos h2, show d - n = (d - (n + 1)) + 1 from by omega]; rfl
      · rw [if_neg (by omega), if_neg h2]

/-- The names of old blocks. -/
def env (w : World) (olds : List Nat) (ro : Addr → Option Value) : Env := ⟨fun i => if i < olds.length then olds.getD i 0 else w.heap.size + (i - olds.length), olds.length, w, ro⟩

def noRo : Addr → Option Value := fun _ => none

theorem rel_start {w : World} {olds : List Nat} {ro : Addr → Option Value} {bs : List NB} (hlen : bs.length = olds.length) (hnd : ∀ i j k : Nat, olds[i]? = some k → olds[j]? = some k → i = j)
    (hc : ∀ (i : Nat) (b : NB) (k : Nat), bs[i]? = some b → olds[i]? = some k → w.heap[k]? = some (Obj.cells (b.cs.map (C.real (env w olds ro).ρ)).toArray b.ty (0, 0)))
    (hro : ∀ a v, ro a = some v → w.cell? a = some v ∧ a.block ∉ olds) : Rel (env w olds ro) bs w := by
  have hρ : ∀ i, i < olds.length → ∃ k, olds[i]? = some k ∧ (env w olds ro).ρ i = k := fun i hi => by
    refine ⟨olds[i], List.getElem?_eq_getElem hi, ?_⟩
    simp [env, hi, List.getD]
  have hcell : ∀ i b, bs[i]? = some b → w.heap[(env w olds ro).ρ i]? = some (.cells (b.cs.map (C.real (env w olds ro).ρ)).toArray b.ty (0, 0)) := by
    intro i b hb
    have hi : i < olds.length := by rw [← hlen]; exact (List.getElem?_eq_some_iff.1 hb).1
    obtain ⟨k, h1, h2⟩ := hρ i hi
    rw [h2]; exact hc i b k hb h1
  refine ⟨hcell, ?_, by simp [env, hlen], by simp [env, hlen], fun i hi => ?_, fun i hi => ?_, fun k _ _ => rfl, fun a v hv => ?_, rfl, rfl, rfl⟩
  · intro i j hi hj e
    rw [hlen] at hi hj
    obtain ⟨k, h1, h2⟩ := hρ i hi
    obtain ⟨k', h3, h4⟩ := hρ j hj
    rw [h2, h4] at e
    subst e
    exact hnd i j k h1 h3
  · simp only [env] at hi ⊢
    rw [if_neg (by omega)]
  · have hb := hcell i (bs[i]'(by simp only [env] at hi; omega)) (List.getElem?_eq_getElem _)
    exact lt_of_block hb
  · obtain ⟨h1, h2⟩ := hro a v hv
    refine ⟨h1, fun i hi e => ?_⟩
    rw [hlen] at hi
    obtain ⟨k, h3, h4⟩ := hρ i hi
    rw [h4] at e
    exact h2 (e ▸ List.mem_of_getElem? h3)

theorem calls_exec {P : Program} {f : FuncId} {fn : Func} {vals : Array Value} {w : World} {R : Ending → World → Prop} (args : List SV) (olds : List Nat) (bs : List NB) (ro : Addr → Option Value)
    (hf : P.funcs[f]? = some fn) (hb : fn.body.isSome = true) (hle : Nat.ble args.length fn.ntmps = true) (hvals : vals = (args.map (SV.real (env w olds ro).ρ)).toArray) (hrel : Rel (env w olds ro) bs w)
    (h : ∀ a, CRel (env w olds ro) fn.ntmps { tl := tlOf 0 args, bs := bs } a w → Gets P f (code fn) a w R) : Calls P f vals w R := by
  obtain ⟨c, hc⟩ := Option.isSome_iff_exists.1 hb
  have hle' := Nat.le_of_ble_eq_true hle
  refine calls_of_gets hf hc ?_
  have hcode : code fn = [.code c] := by simp [code, hc]
  rw [← hcode]
  refine h _ ⟨?_, ?_, rfl, hrel⟩
  · intro d v hd
    rw [lk_tlOf] at hd
    simp only [Nat.zero_le, if_true, Nat.sub_zero] at hd
    have hdl : d < args.length := (List.getElem?_eq_some_iff.1 hd).1
    have hsz : vals.size = args.length := by rw [hvals]; simp
    simp only
    rw [Array.getElem?_append_left (by omega), hvals]
    simp [hd]
  · simp only [Array.size_append, Array.size_replicate, hvals, List.size_toArray, List.length_map]
    omega

/-- An operation whose run is known. -/
theorem gets_op {P : Program} {f : FuncId} {ops : Array Oper} {i : Nat} {rest : List Nat} {k : List Item} {a : Act} {w w' : World} {R : Ending → World → Prop} {o : Oper} {v : Value}
    (ho : ops[i]? = some o) (hw : Region.wanted o (yielded ops a.tmps) = true) (hr : (execOp a.eval o).run P w = .ok (.value v) w')
    (h : Gets P f (.inRegion ops rest :: k) (a.put o.dst v) w' R) : Gets P f (.inRegion ops (i :: rest) :: k) a w R :=
  Gets.of_steps (fun _ => Steps.one (step_op_ok (r := some v) ho hw hr)) h

/-- The operation that stands next, if nothing guards it. -/
def opX : List Item → Option (Option Nat × Op × TypeId)
  | .inRegion ops (i :: _) :: _ => match ops[i]? with
    | some ⟨dst, op, ty, _, _, none⟩ => some (dst, op, ty)
    | _ => none
  | _ => none

theorem gets_opX {P : Program} {f : FuncId} {k : List Item} {a : Act} {w w' : World} {R : Ending → World → Prop} {dst : Option Nat} {op : Op} {ty : TypeId} {v : Value}
    (ho : opX k = some (dst, op, ty)) (hr : ∀ pos after, (execOp a.eval ⟨dst, op, ty, pos, after, none⟩).run P w = .ok (.value v) w') (h : Gets P f (popX k) (a.put dst v) w' R) : Gets P f k a w R := by
  unfold opX at ho
  split at ho
  · split at ho
    · rename_i hop
      simp only [Option.some.injEq, Prod.mk.injEq] at ho
      obtain ⟨rfl, rfl, rfl⟩ := ho
      exact gets_op hop rfl (hr _ _) h
    · cases ho
  · cases ho

/-- Fewer slots, the blocks written out. -/
theorem CRel.pick {ε : Env} {nt : Nat} {σ : St} {a : Act} {w : World} (hc : CRel ε nt σ a w) (tl : List (Nat × SV)) (bs : List NB)
    (h1 : tl.map (fun x => lk x.1 σ.tl) = tl.map (fun x => some x.2)) (h2 : σ.bs = bs) : CRel ε nt { tl := tl, bs := bs } a w := by
  refine ⟨fun d v hd => ?_, hc.size, hc.defers, h2 ▸ hc.mem⟩
  refine hc.tl d v ?_
  clear h2
  induction tl with
  | nil => cases hd
  | cons x l ih =>
    obtain ⟨x1, x2⟩ := x
    simp only [List.map_cons, List.cons.injEq] at h1
    simp only [lk] at hd
    split at hd
    · rename_i e; cases hd; subst e; exact h1.1
    · exact ih h1.2 hd

/-- A value laid into a slot behind a call. -/
theorem TRel.lay {ρ : Nat → Nat} {tl : List (Nat × SV)} {a : Act} (h : TRel ρ tl a.tmps) {nt : Nat} (hs : a.tmps.size = nt) (d : Nat) (hd : Nat.blt d nt = true) (v : SV) {u : Value} (hu : u = v.real ρ) :
    TRel ρ ((d, v) :: tl) (a.put (some d) u).tmps := by
  subst hu
  exact TRel.put h d (by rw [hs]; exact Nat.le_of_ble_eq_true hd) v

def AllP : List (Env → Prop) → Env → Prop
  | [], _ => True
  | p :: l, ε => p ε ∧ AllP l ε

theorem holds_of {σ : St} {ε : Env} {obs : List (Env → Prop)} (h : σ.ob = obs) (h2 : AllP obs ε) : σ.holds ε := by
  intro p hp
  rw [h] at hp
  clear h
  induction obs with
  | nil => cases hp
  | cons q l ih =>
    rcases List.mem_cons.1 hp with rfl | hp
    · exact h2.1
    · exact ih h2.2 hp

/-- Items that neither read nor write. -/
def ctl1 : List Item → Option (List Item)
  | .code .skip :: k => some k
  | .code (.label _) :: k => some k
  | .inBlock _ :: k => some k
  | .inScope _ :: k => some k
  | .inRegion _ [] :: k => some k
  | .code (.seq x y) :: k => some (.code x :: .code y :: k)
  | .code (.block id c) :: k => some (.code c :: .inBlock id :: k)
  | .code (.exit id) :: k => exitTo id k
  | _ => none

def ctl : Nat → List Item → List Item
  | 0, k => k
  | n + 1, k => match ctl1 k with
    | some k' => ctl n k'
    | none => k

theorem gets_ctl {P : Program} {f : FuncId} {a : Act} {w : World} {R : Ending → World → Prop} : ∀ (n : Nat) (k : List Item), Gets P f (ctl n k) a w R → Gets P f k a w R
  | 0, _, h => h
  | n + 1, k, h => by
    simp only [ctl] at h
    cases hs : ctl1 k with
    | none => rw [hs] at h; exact h
    | some k' =>
      rw [hs] at h
      have ih := gets_ctl n k' h
      unfold ctl1 at hs
      split at hs
      · cases hs; exact Gets.of_steps (fun _ => .one step_skip) ih
      · cases hs; exact Gets.of_steps (fun _ => .one step_label) ih
      · cases hs; exact Gets.of_steps (fun _ => .one step_inBlock) ih
      · cases hs; exact Gets.of_steps (fun _ => .one step_inScope) ih
      · cases hs; exact Gets.of_steps (fun _ => .one step_region_end) ih
      · cases hs; exact Gets.of_steps (fun _ => .one step_seq) ih
      · cases hs; exact Gets.of_steps (fun _ => .one step_block) ih
      · exact Gets.of_steps (fun _ => .one (step_exit hs)) ih
      · cases hs

theorem gets_end0 {P : Program} {f : FuncId} {fn : Func} {k : List Item} {a : Act} {w : World} {R : Ending → World → Prop} (hd : a.defers = []) (hf : P.funcs[f]? = some fn) (hr : fn.results = #[])
    (hk : isFin (ctl 30 k) = true) (hR : R (.returned (.tuple #[])) w) : Gets P f k a w R := by
  refine gets_ctl 30 k (fun cs => ?_)
  have hres : (results fn a.tmps).run P w = .ok (.tuple #[]) w := by simp [results, hr]
  unfold isFin at hk
  split at hk
  · rename_i hk'; rw [hk']; exact ⟨_, w, _, hR, Steps.one step_end, rfl, rfl, hd, rfl, fn, hf, hres⟩
  · rename_i hk'; rw [hk']; exact ⟨_, w, _, hR, Steps.one step_ret, rfl, rfl, hd, rfl, fn, hf, hres⟩
  · cases hk

theorem Act.put_defers' (a : Act) (d : Option Nat) (v : Value) : (a.put d v).defers = a.defers := by cases d <;> rfl

theorem Act.put_size (a : Act) (d : Option Nat) (v : Value) : (a.put d v).tmps.size = a.tmps.size := by cases d <;> simp [Act.put]

/-- A call that is the last thing that a function without results does. -/
theorem gets_tail {P : Program} {ε : Env} {nt : Nat} {f : FuncId} {fn : Func} {k : List Item} {σ : St} {a : Act} {w : World} {R : Ending → World → Prop} {c : CallX} (S : World → Prop)
    (hc : CRel ε nt σ a w) (hx : callX k σ = some c) (he : enters P c.fn = true) (hcall : Calls P c.fn (c.real ε.ρ) w fun e w' => e = .returned (.tuple #[]) ∧ S w')
    (hf : P.funcs[f]? = some fn) (hr : fn.results = #[]) (hk : isFin (ctl 30 (popX k)) = true) (h : ∀ w', S w' → R (.returned (.tuple #[])) w') : Gets P f k a w R := by
  refine gets_call hc hx he hcall (fun e w' ⟨h1, h2⟩ => ⟨_, h1, ?_⟩)
  exact gets_end0 (by rw [Act.put_defers']; exact hc.defers) hf hr hk (h w' h2)

/-- The plain end of what a function does to the machine at b. -/
def Does (B : Bd) (b : Nat) (w : World) (m' : M) (e : Ending) (w' : World) : Prop := e = .returned (.tuple #[]) ∧ MOk B w' b m' ∧ Evo w b w'

theorem real_plain {x : C} (ρ : Nat → Nat) (h : x.below 0 = true) : x.real ρ = x.real fun _ => 0 :=
  (C.real_below (ρ := ρ) (ρ' := fun _ => 0) (n := 0) (fun i hi => by cases hi) h).symm

theorem map_plain {l : List C} (ρ : Nat → Nat) (h : l.all (C.below 0) = true) : (l.map (C.real ρ)).toArray = plainR l := by
  unfold plainR
  congr 1
  apply List.map_congr_left
  intro x hx
  exact real_plain ρ (List.all_eq_true.1 h x hx)

theorem mcells_below (prog : ByteArray) (status : Int) (a : Option Addr) (n c : Nat) (th : Option (FuncId × Array Value)) (call : CallD) (over : Bool) :
    (mcells prog status a n c (thnC th) call over).all (C.below 0) = true := by
  cases th <;> rfl

end Go.Proofs.YtoihipolfdhhnaaGreatDoor
