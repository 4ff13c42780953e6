/-
  The symbolic executor's operations, the third part: lengths, pieces, elements, function values; and all operations together.
-/
import Derived.Test.YtoihipolfdhhnaaGreatDoorSxOps2
import Derived.Laws.Small
import Derived.Laws.Entries
namespace Go.Proofs.YtoihipolfdhhnaaGreatDoor

/- LENGTHS -/

def xLen (T : TypeId → Option TI) (t : TypeId) (x : Operand) (σ : St) : Option (Option SV × St) :=
  match T t, evC σ x with
  | some ⟨_, _, _, .str⟩, some (.str s) => some (some (.e (.c (.int .i64 s.size))), σ)
  | some ⟨_, _, _, .slice _⟩, some (.sl _ n _) => some (some (.e (.c (.int .i64 n))), σ)
  | some ⟨_, _, _, .slice _⟩, some (.nsl _ _ n _) => some (some (.e (.c (.int .i64 n))), σ)
  | _, _ => none

theorem xLen_ok {P : Program} {T : TypeId → Option TI} (hT : Tabs P T) {t ty : TypeId} {x : Operand} {σ σ' : St} {r : Option SV} {a : Act} {w : World} {ε : Env}
    (h : xLen T t x σ = some (r, σ')) (htl : TRel ε.ρ σ.tl a.tmps) :
    ReadOk ε σ r σ' ((builtin .len #[t] ty #[false] #[a.eval x]).run P w) w ∧ ReadOk ε σ r σ' ((builtin .len #[t] ty #[true] #[a.eval x]).run P w) w := by
  unfold xLen at h
  split at h
  · rename_i hi hx
    have he := evC_ok htl hx
    obtain ⟨d, hd, _, hk⟩ := (hT t _ hi).und
    simp only [Kd.fits] at hk
    subst hk
    cases h
    constructor <;> exact ⟨_, rfl, rfl, rfl, by simp [builtin, Builtin.len_, run_underlying hd, he, C.real, SV.real, E.real, goInt]⟩
  · rename_i hi hx
    have he := evC_ok htl hx
    obtain ⟨d, hd, _, hk⟩ := (hT t _ hi).und
    simp only [Kd.fits] at hk
    subst hk
    cases h
    constructor <;> exact ⟨_, rfl, rfl, rfl, by simp [builtin, Builtin.len_, run_underlying hd, he, C.real, SV.real, E.real, goInt]⟩
  · rename_i hi hx
    have he := evC_ok htl hx
    obtain ⟨d, hd, _, hk⟩ := (hT t _ hi).und
    simp only [Kd.fits] at hk
    subst hk
    cases h
    constructor <;> exact ⟨_, rfl, rfl, rfl, by simp [builtin, Builtin.len_, run_underlying hd, he, C.real, SV.real, E.real, goInt]⟩
  · cases h

/- PIECES -/

/-- A bound's number; none: there is no bound. -/
def evI (σ : St) : Option Operand → Option (Option Int)
  | none => some none
  | some x => match evC σ x with
    | some (.int _ n) => some (some n)
    | _ => none

theorem evI_ok {ρ : Nat → Nat} {σ : St} {a : Act} (h : TRel ρ σ.tl a.tmps) {x : Option Operand} {v : Option Int} (hx : evI σ x = some v) :
    (x = none ∧ v = none) ∨ ∃ o k n, x = some o ∧ v = some n ∧ a.eval o = .int k n := by
  cases x with
  | none => simp only [evI, Option.some.injEq] at hx; exact .inl ⟨rfl, hx.symm⟩
  | some o =>
    simp only [evI] at hx
    split at hx
    · rename_i k n hc
      cases hx
      exact .inr ⟨o, k, n, rfl, rfl, evC_ok h hc⟩
    · cases hx

def loOf (l : Option Int) : Nat := (l.getD 0).toNat
def hiOf (h : Option Int) (n : Nat) : Nat := match h with | some x => x.toNat | none => n
def okLo (l : Option Int) (h : Nat) : Prop := match l with | some x => 0 ≤ x ∧ x ≤ (h : Int) | none => True

theorem run_sliceBounds {P : Program} {w : World} {ρ : Nat → Nat} {σ : St} {a : Act} (htl : TRel ρ σ.tl a.tmps) {lo hi : Option Operand} {l h : Option Int} (hl : evI σ lo = some l) (hh : evI σ hi = some h)
    (isSlice : Bool) (len cap : Nat) (h1 : okLo h cap) (h2 : okLo l (hiOf h len)) :
    (Instr.sliceBounds isSlice len cap (lo.map a.eval) (hi.map a.eval) none).run P w = .ok (loOf l, hiOf h len, cap) w := by
  rcases evI_ok htl hl with ⟨rfl, rfl⟩ | ⟨o, k, n, rfl, rfl, he⟩ <;> rcases evI_ok htl hh with ⟨rfl, rfl⟩ | ⟨o', k', n', rfl, rfl, he'⟩
  · simp [Instr.sliceBounds, loOf, hiOf]
  · simp only [okLo] at h1
    simp [Instr.sliceBounds, loOf, hiOf, he', Instr.sliceBound, asIntOf, h1]
  · simp only [okLo, hiOf] at h2
    simp [Instr.sliceBounds, loOf, hiOf, he, Instr.sliceBound, asIntOf, h2]
  · simp only [okLo, hiOf] at h1 h2
    simp [Instr.sliceBounds, loOf, hiOf, he, he', Instr.sliceBound, asIntOf, h1, h2]
    intro hlt; omega

def xSlice (T : TypeId → Option TI) (t : TypeId) (x : Operand) (lo hi : Option Operand) (σ : St) : Option (Option SV × St) :=
  match T t, evC σ x, evI σ lo, evI σ hi with
  | some ⟨_, _, _, .str⟩, some (.str s), some l, some h =>
    some (some (.e (.c (.str (s.extract (loOf l) (hiOf h s.size))))), { σ with ob := σ.ob ++ [fun _ => okLo h s.size ∧ okLo l (hiOf h s.size)] })
  | some ⟨_, _, _, .slice e⟩, some (.sl ad n c), some l, some h => match T e with
    | some i => some (some (.e (.c (.sl (if c = loOf l then ad else ad.map (·.add (loOf l * i.size))) (hiOf h n - loOf l) (c - loOf l)))),
        { σ with ob := σ.ob ++ [fun _ => okLo h c ∧ okLo l (hiOf h n)] })
    | none => none
  | _, _, _, _ => none

theorem xSlice_ok {P : Program} {T : TypeId → Option TI} (hT : Tabs P T) {t : TypeId} {x : Operand} {lo hi : Option Operand} {σ σ' : St} {r : Option SV} {a : Act} {w : World} {ε : Env}
    (h : xSlice T t x lo hi σ = some (r, σ')) (htl : TRel ε.ρ σ.tl a.tmps) (hob : σ'.holds ε) :
    ReadOk ε σ r σ' ((Instr.sliceAt t (a.eval x) (lo.map a.eval) (hi.map a.eval) none >>= fun v => pure (Next.value v)).run P w) w := by
  unfold xSlice at h
  split at h
  · rename_i s l u hi' hx hl hh
    have he := evC_ok htl hx
    obtain ⟨d, hd, _, hk⟩ := (hT t _ hi').und
    simp only [Kd.fits] at hk
    subst hk
    cases h
    have ho := hob _ (List.mem_append.2 (.inr (List.mem_singleton.2 rfl)))
    refine ⟨_, rfl, rfl, rfl, ?_⟩
    have hb := run_sliceBounds (P := P) (w := w) htl hl hh false s.size s.size ho.1 ho.2
    simp [Instr.sliceAt, Instr.slice, run_underlying hd, he, C.real, hb, SV.real, E.real]
  · rename_i e ad n c l u hi' hx hl hh
    have he := evC_ok htl hx
    obtain ⟨d, hd, _, hk⟩ := (hT t _ hi').und
    simp only [Kd.fits] at hk
    subst hk
    split at h
    · rename_i i hi2
      cases h
      have ho := hob _ (List.mem_append.2 (.inr (List.mem_singleton.2 rfl)))
      refine ⟨_, rfl, rfl, rfl, ?_⟩
      have hb := run_sliceBounds (P := P) (w := w) htl hl hh true n c ho.1 ho.2
      have hs := run_sizeOf' (hT e i hi2) w
      simp [Instr.sliceAt, Instr.slice, run_underlying hd, he, C.real, hb, hs, SV.real, E.real]
    · cases h
  · cases h

/- ELEMENTS -/

def xAt (T : TypeId → Option TI) (t : TypeId) (x i : Operand) (σ : St) : Option (Option SV × St) :=
  match T t, evC σ x, evC σ i with
  | some ⟨_, _, _, .slice e⟩, some (.sl (some ad) n _), some (.int _ k) => match T e with
    | some j => some (some (.e (.c (.rp (ad.add (k.toNat * j.size))))), { σ with ob := σ.ob ++ [fun _ => 0 ≤ k ∧ k < (n : Int)] })
    | none => none
  | some ⟨_, _, _, .slice e⟩, some (.nsl b o n _), some (.int _ k) => match T e with
    | some j => some (some (.e (.c (.p b (o + k.toNat * j.size)))), { σ with ob := σ.ob ++ [fun _ => 0 ≤ k ∧ k < (n : Int)] })
    | none => none
  | _, _, _ => none

theorem xAt_ok {P : Program} {T : TypeId → Option TI} (hT : Tabs P T) {t : TypeId} {x i : Operand} {σ σ' : St} {r : Option SV} {a : Act} {w : World} {ε : Env}
    (h : xAt T t x i σ = some (r, σ')) (htl : TRel ε.ρ σ.tl a.tmps) (hob : σ'.holds ε) :
    ReadOk ε σ r σ' ((Instr.indexAt t (a.eval x) (a.eval i) >>= fun v => pure (Next.value v)).run P w) w := by
  unfold xAt at h
  split at h
  · rename_i e ad n c k m hi hx hi'
    have he := evC_ok htl hx
    have he' := evC_ok htl hi'
    obtain ⟨d, hd, _, hk⟩ := (hT t _ hi).und
    simp only [Kd.fits] at hk
    subst hk
    split at h
    · rename_i j hj
      cases h
      have ho := hob _ (List.mem_append.2 (.inr (List.mem_singleton.2 rfl)))
      refine ⟨_, rfl, rfl, rfl, ?_⟩
      have hs := run_sizeOf' (hT e j hj) w
      simp [Instr.indexAt, run_underlying hd, he, he', C.real, asIntOf, ho, hs, SV.real, E.real]
    · cases h
  · rename_i e b o n c k m hi hx hi'
    have he := evC_ok htl hx
    have he' := evC_ok htl hi'
    obtain ⟨d, hd, _, hk⟩ := (hT t _ hi).und
    simp only [Kd.fits] at hk
    subst hk
    split at h
    · rename_i j hj
      cases h
      have ho := hob _ (List.mem_append.2 (.inr (List.mem_singleton.2 rfl)))
      refine ⟨_, rfl, rfl, rfl, ?_⟩
      have hs := run_sizeOf' (hT e j hj) w
      simp [Instr.indexAt, run_underlying hd, he, he', C.real, asIntOf, ho, hs, SV.real, E.real, addr_add]
    · cases h
  · cases h

/-- A byte of a text. -/
def xByte (T : TypeId → Option TI) (t : TypeId) (x i : Operand) (σ : St) : Option (Option SV × St) :=
  match T t, evC σ x, evC σ i with
  | some ⟨_, _, _, .str⟩, some (.str s), some (.int _ k) =>
    some (some (.e (.c (.int .u8 ((s[k.toNat]?).getD 0).toNat))), { σ with ob := σ.ob ++ [fun _ => 0 ≤ k ∧ k.toNat < s.size] })
  | _, _, _ => none

theorem xByte_ok {P : Program} {T : TypeId → Option TI} (hT : Tabs P T) {t : TypeId} {x i : Operand} {σ σ' : St} {r : Option SV} {a : Act} {w : World} {ε : Env}
    (h : xByte T t x i σ = some (r, σ')) (htl : TRel ε.ρ σ.tl a.tmps) (hob : σ'.holds ε) :
    ReadOk ε σ r σ' ((Instr.index t (a.eval x) (a.eval i) >>= fun v => pure (Next.value v)).run P w) w := by
  unfold xByte at h
  split at h
  · rename_i s k m hi hx hi'
    have he := evC_ok htl hx
    have he' := evC_ok htl hi'
    obtain ⟨d, hd, _, hk⟩ := (hT t _ hi).und
    simp only [Kd.fits] at hk
    subst hk
    cases h
    have ho := hob _ (List.mem_append.2 (.inr (List.mem_singleton.2 rfl)))
    refine ⟨_, rfl, rfl, rfl, ?_⟩
    obtain ⟨h0, h1⟩ := ho
    have hg : s[m.toNat]? = some (s[m.toNat]'h1) := by simp [h1]
    simp [Instr.index, run_underlying hd, he, he', C.real, asIntOf, h0, hg, SV.real, E.real]
  · cases h

/- FUNCTION VALUES, TUPLES, OTHERS -/

def evCap (σ : St) (x : Operand) : Option PP :=
  match evC σ x with
  | some (.p b o) => some (.n b o)
  | some (.rp a) => some (.r a)
  | _ => none

def evCaps (σ : St) : List Operand → Option (List PP)
  | [] => some []
  | x :: l => match evCap σ x, evCaps σ l with
    | some v, some r => some (v :: r)
    | _, _ => none

theorem evCaps_ok {ρ : Nat → Nat} {σ : St} {a : Act} (h : TRel ρ σ.tl a.tmps) : ∀ {l : List Operand} {r : List PP}, evCaps σ l = some r → l.map a.eval = r.map (PP.real ρ)
  | [], r, hr => by simp only [evCaps, Option.some.injEq] at hr; subst hr; rfl
  | x :: l, r, hr => by
    unfold evCaps at hr
    split at hr
    · rename_i v l' hv hl
      cases hr
      simp only [List.map_cons, evCaps_ok h hl]
      congr 1
      unfold evCap at hv
      split at hv
      · rename_i b o hc; cases hv; exact evC_ok h hc
      · rename_i ad hc; cases hv; exact evC_ok h hc
      · cases hv
    · cases hr

def xBuildSlice (T : TypeId → Option TI) (t : TypeId) (len : Nat) (parts : Array (Nat × Operand)) (σ : St) : Option (Option SV × St) :=
  match T t with
  | some ⟨_, _, _, .slice e⟩ => match T e with
    | some i =>
      if len * i.size ≤ 64 ∧ len * i.size ≠ 0 ∧ i.zero.length = i.size then
        match evParts σ parts.toList with
        | some ps => match xFill (fun k => some (k * i.size, i.size)) ((List.range (len * i.size)).map fun j => i.zero.getD (j % i.size) .undef) ps with
          | some cs => some (some (.e (.c (.nsl σ.bs.length 0 len len))), { σ with bs := σ.bs ++ [⟨e, cs⟩] })
          | none => none
        | none => none
      else none
    | none => none
  | _ => none

theorem xBuildSlice_ok {P : Program} {T : TypeId → Option TI} (hT : Tabs P T) {t : TypeId} {len : Nat} {parts : Array (Nat × Operand)} {σ σ' : St} {r : Option SV} {a : Act} {w : World} {ε : Env}
    (h : xBuildSlice T t len parts σ = some (r, σ')) (htl : TRel ε.ρ σ.tl a.tmps) (hrel : Rel ε σ.bs w) :
    Foretold ε σ r σ' ((Instr.buildSlice t len (parts.map fun (i, x) => (i, a.eval x)) >>= fun v => pure (Next.value v)).run P w) := by
  unfold xBuildSlice at h
  split at h
  · rename_i e hi
    obtain ⟨d, hd, _, hk⟩ := (hT t _ hi).und
    simp only [Kd.fits] at hk
    subst hk
    split at h
    · rename_i i hi2
      split at h
      · rename_i hlen
        split at h
        · rename_i ps hps
          split at h
          · rename_i cs hcs
            cases h
            obtain ⟨h1, h2⟩ := hrel.alloc ⟨e, cs⟩
            refine ⟨rfl, _, h1, ?_⟩
            have hs := run_sizeOf' (hT e i hi2) w
            obtain ⟨z, hz, hc⟩ := run_zeroValue' (hT e i hi2) w ε.ρ
            have hfill := xFill_ok _ ε.ρ ps _ cs hcs
            have hparts : (parts.map fun (i, x) => (i, a.eval x)).toList = ps.map fun x => (x.1, x.2.real ε.ρ) := by
              rw [Array.toList_map]; exact evParts_ok htl hps
            have hbig : ¬ (len * i.size > 2 ^ 24) := by omega
            have hne : ¬ (len * i.size = 0) := hlen.2.1
            have hpos : 0 < i.size := Nat.pos_of_ne_zero (fun e => by rw [e] at hne; simp at hne)
            have hcells : (Array.range (len * i.size)).map (fun j => (i.zero.map (C.real ε.ρ)).toArray[j % (i.zero.map (C.real ε.ρ)).toArray.size]!)
                = (((List.range (len * i.size)).map fun j => i.zero.getD (j % i.size) .undef).map (C.real ε.ρ)).toArray := by
              apply Array.ext'
              simp only [Array.toList_map, Array.toList_range, List.map_map]
              apply List.map_congr_left
              intro j _
              have hj : j % i.size < i.zero.length := by rw [hlen.2.2]; exact Nat.mod_lt _ hpos
              simp [List.getD, hlen.2.2, List.getElem?_eq_getElem hj]
            simp only [Instr.buildSlice, Sem.run_bind, run_underlying hd, Result.andThen_ok, hs, if_neg hbig, if_neg hne, hz, hc, Sem.run_pure, hcells, hparts, hfill, newRow, run_newObj]
            simp only [SV.real, E.real, C.real, h2]
            rfl
          · cases h
        · cases h
      · cases h
    · cases h
  · cases h

/-- All operations but calls of functions. -/
def xop (T : TypeId → Option TI) (o : Oper) (σ : St) : Option (Option SV × St) :=
  match o.op with
  | .move x | .assign x => (ev σ x).map fun v => (some v, σ)
  | .pick c x y => match evC σ c with
    | some (.bool b) => (ev σ (if b then x else y)).map fun v => (some v, σ)
    | _ => none
  | .alloc t => xAlloc T t σ
  | .box t x => xBox t x σ
  | .build t parts => xBuild T t parts σ
  | .buildSlice t len parts => xBuildSlice T t len parts σ
  | .load t x => xLoad T t x σ
  | .store t x y => xStore T t x y σ
  | .nilCheck x => xNil x σ
  | .binOp op xt x y _ => xBin T op xt x y σ
  | .unOp .not _ x => match evC σ x with
    | some (.bool b) => some (some (.e (.c (.bool !b))), σ)
    | _ => none
  | .unOp .neg _ x => match evC σ x with
    | some (.int k n) => some (some (.e (.c (.int k (k.wrap (-n))))), σ)
    | _ => none
  | .convert src dst x => match T src, T dst, evC σ x with
    | some _, some ⟨_, _, _, .int k'⟩, some (.int _ n) => some (some (.e (.c (.int k' (k'.wrap n)))), σ)
    | _, _, _ => none
  | .makeFunc (.func fn) ⟨[]⟩ caps => (evCaps σ caps.toList).map fun l => (some (.e (.c (.f fn l))), σ)
  | .slice t x lo hi none => xSlice T t x lo hi σ
  | .fieldAddr s x k => xField T s x k σ
  | .field s x k => xPart T s x k σ
  | .indexAddr t x i => xAt T t x i σ
  | .index t x i => xByte T t x i σ
  | .extract x k => match ev σ x with
    | some (.t l) => (l[k]?).map fun v => (some (.e v), σ)
    | _ => none
  | .call ⟨.builtin .len, ⟨[x]⟩, ⟨[t]⟩⟩ => xLen T t x σ
  | .call ⟨.builtin .max, ⟨[x, y]⟩, _⟩ => match evC σ x, evC σ y with
    | some (.int k a), some (.int _ b) => some (some (.e (.c (.int k (if b > a then b else a)))), σ)
    | _, _ => none
  | .call ⟨.builtin .min, ⟨[x, y]⟩, _⟩ => match evC σ x, evC σ y with
    | some (.int k a), some (.int _ b) => some (some (.e (.c (.int k (if b < a then b else a)))), σ)
    | _, _ => none
  | _ => none

/-- Does an operation only read? -/
def reads : Op → Bool
  | .alloc _ | .box _ _ | .buildSlice _ _ _ | .store _ _ _ => false
  | _ => true

theorem xop_read {P : Program} {T : TypeId → Option TI} (hT : Tabs P T) {o : Oper} {σ σ' : St} {r : Option SV} {a : Act} {w : World} {ε : Env}
    (h : xop T o σ = some (r, σ')) (hr : reads o.op = true) (htl : TRel ε.ρ σ.tl a.tmps) (hrel : Sees ε σ.bs w) (hob : σ'.holds ε) :
    ReadOk ε σ r σ' ((execOp a.eval o).run P w) w := by
  obtain ⟨dst, op, type, pos, after, guard⟩ := o
  unfold xop at h
  simp only at h hr
  split at h
  · cases hv : ev σ ‹Operand› with
    | none => simp [hv] at h
    | some v => simp only [hv, Option.map_some, Option.some.injEq, Prod.mk.injEq] at h; obtain ⟨rfl, rfl⟩ := h; exact ⟨_, rfl, rfl, rfl, by simp [execOp, ev_ok htl hv]⟩
  · cases hv : ev σ ‹Operand› with
    | none => simp [hv] at h
    | some v => simp only [hv, Option.map_some, Option.some.injEq, Prod.mk.injEq] at h; obtain ⟨rfl, rfl⟩ := h; exact ⟨_, rfl, rfl, rfl, by simp [execOp, ev_ok htl hv]⟩
  · rename_i c x y
    split at h
    · rename_i b hb
      have hc := evC_ok htl hb
      cases hv : ev σ (if b = true then x else y) with
      | none => simp [hv] at h
      | some v =>
        simp only [hv, Option.map_some, Option.some.injEq, Prod.mk.injEq] at h; obtain ⟨rfl, rfl⟩ := h
        refine ⟨_, rfl, rfl, rfl, ?_⟩
        have := ev_ok htl hv
        cases b <;> simp_all [execOp, C.real, asBool]
    · cases h
  · simp [reads] at hr
  · simp [reads] at hr
  · exact xBuild_ok hT h htl
  · simp [reads] at hr
  · exact xLoad_ok hT h htl hrel hob
  · simp [reads] at hr
  · rename_i x
    unfold xNil at h
    split at h <;> first | (cases h; done) | (rename_i hx; have he := evC_ok htl hx; cases h; exact ⟨_, rfl, rfl, rfl, by simp [execOp, he, C.real, SV.real, E.real]⟩)
  · exact xBin_ok hT h htl hob
  · split at h
    · rename_i b hb
      have he := evC_ok htl hb
      cases h
      exact ⟨_, rfl, rfl, rfl, by simp [execOp, he, C.real, Op.unary, SV.real, E.real]⟩
    · cases h
  · split at h
    · rename_i k n hb
      have he := evC_ok htl hb
      cases h
      exact ⟨_, rfl, rfl, rfl, by simp [execOp, he, C.real, Op.unary, Op.intArith, SV.real, E.real]⟩
    · cases h
  · split at h
    · rename_i i1 k' k n h1 h2 hb
      have he := evC_ok htl hb
      obtain ⟨d, hd, _, hk⟩ := (hT _ _ h2).und
      simp only [Kd.fits] at hk
      subst hk
      obtain ⟨d1, hd1, _⟩ := (hT _ _ h1).und
      cases h
      exact ⟨_, rfl, rfl, rfl, by simp [execOp, he, C.real, convert, run_underlying hd, run_underlying hd1, Conv.intToInt, SV.real, E.real]⟩
    · cases h
  · rename_i fn caps
    cases hv : evCaps σ caps.toList with
    | none => simp [hv] at h
    | some l =>
      simp only [hv, Option.map_some, Option.some.injEq, Prod.mk.injEq] at h; obtain ⟨rfl, rfl⟩ := h
      have hm := evCaps_ok htl hv
      have hm' : caps.map a.eval = (l.map (PP.real ε.ρ)).toArray := by apply Array.ext'; simpa using hm
      exact ⟨_, rfl, rfl, rfl, by simp [execOp, Instr.makeFunc, hm', SV.real, E.real, C.real]⟩
  · exact xSlice_ok hT h htl hob
  · exact xField_ok hT h htl
  · exact xPart_ok hT h htl
  · exact xAt_ok hT h htl hob
  · exact xByte_ok hT h htl hob
  · rename_i x k
    split at h
    · rename_i l hx
      have he := ev_ok htl hx
      cases hv : l[k]? with
      | none => simp [hv] at h
      | some v =>
        simp only [hv, Option.map_some, Option.some.injEq, Prod.mk.injEq] at h; obtain ⟨rfl, rfl⟩ := h
        exact ⟨_, rfl, rfl, rfl, by simp [execOp, he, SV.real, Instr.extract, hv]⟩
    · cases h
  · rename_i x t
    have hl := xLen_ok (P := P) (w := w) (ε := ε) hT (ty := type) h htl
    cases x <;> first | (have h1 := hl.1; simpa [execOp, resolve, invoke] using h1; done) | (have h1 := hl.2; simpa [execOp, resolve, invoke] using h1)
  · split at h
    · rename_i k m k' n hx hy
      have hex := evC_ok htl hx
      have hey := evC_ok htl hy
      cases h
      exact ⟨_, rfl, rfl, rfl, by simp [execOp, resolve, invoke, hex, hey, C.real, SV.real, E.real, builtin, run_max_int2]⟩
    · cases h
  · split at h
    · rename_i k m k' n hx hy
      have hex := evC_ok htl hx
      have hey := evC_ok htl hy
      cases h
      exact ⟨_, rfl, rfl, rfl, by simp [execOp, resolve, invoke, hex, hey, C.real, SV.real, E.real, builtin, run_min_int2]⟩
    · cases h
  · cases h

theorem xop_ok {P : Program} {T : TypeId → Option TI} (hT : Tabs P T) {o : Oper} {σ σ' : St} {r : Option SV} {a : Act} {w : World} {ε : Env}
    (h : xop T o σ = some (r, σ')) (htl : TRel ε.ρ σ.tl a.tmps) (hrel : Rel ε σ.bs w) (hob : σ'.holds ε) :
    Foretold ε σ r σ' ((execOp a.eval o).run P w) := by
  cases hr : reads o.op with
  | true => exact (xop_read hT h hr htl hrel.sees hob).foretold hrel
  | false =>
    obtain ⟨dst, op, type, pos, after, guard⟩ := o
    cases op <;> simp only [reads, Bool.true_eq_false] at hr <;> simp only [xop] at h
    · exact xAlloc_ok hT h hrel
    · exact xBox_ok h htl hrel
    · exact xBuildSlice_ok hT h htl hrel
    · exact xStore_ok hT h htl hrel

end Go.Proofs.YtoihipolfdhhnaaGreatDoor
