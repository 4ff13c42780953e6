/-
  The symbolic executor's operations, the second part: places, numbers, texts, function values; and all together.
-/
import Derived.Test.YtoihipolfdhhnaaGreatDoorSxOps
namespace Go.Proofs.YtoihipolfdhhnaaGreatDoor

/- PLACES -/

def xNil (x : Operand) (σ : St) : Option (Option SV × St) :=
  match evC σ x with
  | some (.p b o) => some (some (.e (.c (.p b o))), σ)
  | some (.rp a) => some (some (.e (.c (.rp a))), σ)
  | some (.f fn l) => some (some (.e (.c (.f fn l))), σ)
  | some (.fv fn l) => some (some (.e (.c (.fv fn l))), σ)
  | _ => none

def xField (T : TypeId → Option TI) (s : TypeId) (x : Operand) (k : Nat) (σ : St) : Option (Option SV × St) :=
  match T s with
  | some i => match i.kd with
    | .struct fl => match fl[k]? with
      | some (t, off) => match T t with
        | some j => if j.size = 0 then none else
          match evC σ x with
          | some (.p b o) => some (some (.e (.c (.p b (o + off)))), σ)
          | some (.rp a) => some (some (.e (.c (.rp (a.add off)))), σ)
          | _ => none
        | none => none
      | none => none
    | _ => none
  | none => none

theorem getElem?_fields {fs : Array Field} {fl : List (TypeId × Nat)} (h : fs.toList.map (fun (f : Field) => (f.type, f.offset)) = fl) {k : Nat} {t : TypeId} {off : Nat}
    (hk : fl[k]? = some (t, off)) : ∃ f, fs[k]? = some f ∧ f.type = t ∧ f.offset = off := by
  subst h
  rw [List.getElem?_map] at hk
  cases hf : fs.toList[k]? with
  | none => rw [hf] at hk; cases hk
  | some f =>
    rw [hf] at hk
    simp only [Option.map_some, Option.some.injEq, Prod.mk.injEq] at hk
    exact ⟨f, by simpa using hf, hk.1, hk.2⟩

theorem xField_ok {P : Program} {T : TypeId → Option TI} (hT : Tabs P T) {s : TypeId} {x : Operand} {k : Nat} {σ σ' : St} {r : Option SV} {a : Act} {w : World} {ε : Env}
    (h : xField T s x k σ = some (r, σ')) (htl : TRel ε.ρ σ.tl a.tmps) :
    ReadOk ε σ r σ' ((Instr.fieldAt s (a.eval x) k >>= fun v => pure (Next.value v)).run P w) w := by
  unfold xField at h
  split at h
  · rename_i i hi
    split at h
    · rename_i fl hk
      split at h
      · rename_i t off hf
        split at h
        · rename_i j hj
          split at h
          · cases h
          · rename_i hz
            obtain ⟨d, hd, _, hkd⟩ := (hT s i hi).und
            rw [hk] at hkd
            obtain ⟨fs, rfl, hfl⟩ := hkd
            obtain ⟨f, h1, h2, h3⟩ := getElem?_fields hfl hf
            have hs := run_sizeOf' (hT t j hj) w
            rw [← h2] at hs
            split at h
            · rename_i b o hx
              have he := evC_ok htl hx
              cases h
              refine ⟨_, rfl, rfl, rfl, ?_⟩
              simp [Instr.fieldAt, run_underlying hd, h1, he, C.real, Instr.sureAddr, fieldPlace, hs, hz, h3, addr_add, SV.real, E.real]
            · rename_i ad hx
              have he := evC_ok htl hx
              cases h
              refine ⟨_, rfl, rfl, rfl, ?_⟩
              simp [Instr.fieldAt, run_underlying hd, h1, he, C.real, Instr.sureAddr, fieldPlace, hs, hz, h3, SV.real, E.real]
            · cases h
        · cases h
      · cases h
    · cases h
  · cases h

/-- A field of a struct's value. -/
def xPart (T : TypeId → Option TI) (s : TypeId) (x : Operand) (k : Nat) (σ : St) : Option (Option SV × St) :=
  match T s with
  | some i => match i.kd with
    | .struct fl => match fl[k]? with
      | some (t, off) => match T t, evE σ x with
        | some j, some (.a cs) =>
          if j.agg then some (some (.e (.a ((cs.take (off + j.size)).drop off))), σ)
          else match cs[off]? with
            | some c => some (some (.e (.c c)), σ)
            | none => none
        | _, _ => none
      | none => none
    | _ => none
  | none => none

theorem xPart_ok {P : Program} {T : TypeId → Option TI} (hT : Tabs P T) {s : TypeId} {x : Operand} {k : Nat} {σ σ' : St} {r : Option SV} {a : Act} {w : World} {ε : Env}
    (h : xPart T s x k σ = some (r, σ')) (htl : TRel ε.ρ σ.tl a.tmps) :
    ReadOk ε σ r σ' ((Instr.field s (a.eval x) k >>= fun v => pure (Next.value v)).run P w) w := by
  unfold xPart at h
  split at h
  · rename_i i hi
    split at h
    · rename_i fl hk
      split at h
      · rename_i t off hf
        obtain ⟨d, hd, _, hkd⟩ := (hT s i hi).und
        rw [hk] at hkd
        obtain ⟨fs, rfl, hfl⟩ := hkd
        obtain ⟨f, h1, h2, h3⟩ := getElem?_fields hfl hf
        split at h
        · rename_i j cs hj hx
          have he := evE_ok htl hx
          have hs := run_sizeOf' (hT t j hj) w
          have hA := run_isAgg' (hT t j hj) w
          split at h
          · rename_i hag
            cases h
            refine ⟨_, rfl, rfl, rfl, ?_⟩
            simp only [Instr.field, Sem.run_bind, run_underlying hd, Result.andThen_ok, h1, he, E.real, asAgg, Sem.run_pure, part, h2, h3, hA, hag, if_true, hs, SV.real]
            congr 3
            simp [List.map_drop, List.map_take]
            rw [List.drop_take]
            congr 1
            omega
          · rename_i hag
            split at h
            · rename_i c hc
              cases h
              refine ⟨_, rfl, rfl, rfl, ?_⟩
              simp [Instr.field, run_underlying hd, h1, he, E.real, asAgg, part, h2, h3, hA, hag, hc, SV.real]
            · cases h
        · cases h
      · cases h
    · cases h
  · cases h

/- NUMBERS, TEXTS -/

/-- A test: the next bit says how it ends. -/
def ask (b : Bool) (σ : St) : Option (Option SV × St) :=
  match σ.orc with
  | o :: rest => some (some (.e (.c (.bool o))), { σ with orc := rest, ob := σ.ob ++ [fun _ => b = o] })
  | [] => none

theorem ask_ok {b : Bool} {σ σ' : St} {r : Option SV} {w : World} {ε : Env} (h : ask b σ = some (r, σ')) (hob : σ'.holds ε) {res : Result Next}
    (hr : res = .ok (.value (.bool b)) w) : ReadOk ε σ r σ' res w := by
  unfold ask at h
  split at h
  · rename_i o rest ho
    cases h
    have := hob _ (List.mem_append.2 (.inr (List.mem_singleton.2 rfl)))
    refine ⟨_, rfl, rfl, rfl, ?_⟩
    rw [hr, this]; rfl
  · cases h

def cmpI (op : BinOp) (x y : Int) : Option Bool :=
  match op with
  | .eql => some (x == y)
  | .neq => some (x != y)
  | .lss => some (decide (x < y))
  | .leq => some (decide (x ≤ y))
  | .gtr => some (decide (x > y))
  | .geq => some (decide (x ≥ y))
  | _ => none

def arI (op : BinOp) (k : IntKind) (x y : Int) : Option Int :=
  match op with
  | .add => some (k.wrap (x + y))
  | .sub => some (k.wrap (x - y))
  | .mul => some (k.wrap (x * y))
  | .and => some (k.wrap (BitVec.ofInt k.bits x &&& BitVec.ofInt k.bits y).toNat)
  | .or => some (k.wrap (BitVec.ofInt k.bits x ||| BitVec.ofInt k.bits y).toNat)
  | .andNot => some (k.wrap (BitVec.ofInt k.bits x &&& ~~~BitVec.ofInt k.bits y).toNat)
  | .xor => some (k.wrap (BitVec.ofInt k.bits x ^^^ BitVec.ofInt k.bits y).toNat)
  | _ => none

/-- What a divisor of nothing forbids. -/
def dvI (op : BinOp) (k : IntKind) (x y : Int) : Option Int :=
  match op with
  | .quo => some (k.wrap (x.tdiv y))
  | .rem => some (x.tmod y)
  | _ => none

def shI (op : BinOp) (k : IntKind) (x y : Int) : Option Int :=
  match op with
  | .shl => some (k.wrap (x * 2 ^ (min y.toNat k.bits)))
  | .shr => some (x.fdiv (2 ^ (min y.toNat k.bits)))
  | _ => none

def cmpS (op : BinOp) (x y : ByteArray) : Option Bool :=
  match op with
  | .eql => some (x.toList == y.toList)
  | .neq => some (!(x.toList == y.toList))
  | _ => none

def kEq : IntKind → IntKind → Bool
  | .i8, .i8 | .i16, .i16 | .i32, .i32 | .i64, .i64 | .u8, .u8 | .u16, .u16 | .u32, .u32 | .u64, .u64 => true
  | _, _ => false

theorem kEq_eq {a b : IntKind} (h : kEq a b = true) : a = b := by
  cases a <;> cases b <;> first | rfl | (simp [kEq] at h)

def eqB (op : BinOp) (b : Bool) : Option Bool :=
  match op with
  | .eql => some b
  | .neq => some !b
  | _ => none

def xBin (T : TypeId → Option TI) (op : BinOp) (xt : TypeId) (x y : Operand) (σ : St) : Option (Option SV × St) :=
  match evC σ x, evC σ y with
  | some (.int k a), some (.int k' b) =>
    match shI op k a b with
    | some n => some (some (.e (.c (.int k n))), { σ with ob := σ.ob ++ [fun _ => 0 ≤ b] })
    | none =>
    if kEq k k' then
      match cmpI op a b with
      | some t => ask t σ
      | none => match arI op k a b with
        | some n => some (some (.e (.c (.int k n))), σ)
        | none => match dvI op k a b with
          | some n => some (some (.e (.c (.int k n))), { σ with ob := σ.ob ++ [fun _ => b ≠ 0] })
          | none => none
    else none
  | some (.str a), some (.str b) =>
    match op with
    | .add => some (some (.e (.c (.str (a ++ b)))), { σ with ob := σ.ob ++ [fun _ => ((a.size + b.size : Nat) : Int) ≤ 9223372036854775807] })
    | _ => match cmpS op a b with
      | some t => ask t σ
      | none => none
  | some (.f _ _), some .nilf | some (.fv _ _), some .nilf => match T xt, eqB op false with
    | some ⟨_, _, _, .func⟩, some t => some (some (.e (.c (.bool t))), σ)
    | _, _ => none
  | some .nilf, some .nilf => match T xt, eqB op true with
    | some ⟨_, _, _, .func⟩, some t => some (some (.e (.c (.bool t))), σ)
    | _, _ => none
  | some (.p _ _), some .nilp | some (.rp _), some .nilp => match T xt, eqB op false with
    | some ⟨_, _, _, .ptr⟩, some t => some (some (.e (.c (.bool t))), σ)
    | _, _ => none
  | some .nilp, some .nilp => match T xt, eqB op true with
    | some ⟨_, _, _, .ptr⟩, some t => some (some (.e (.c (.bool t))), σ)
    | _, _ => none
  | some (.bool a), some (.bool b) => match T xt, eqB op (a == b) with
    | some ⟨_, _, _, .bool⟩, some t => ask t σ
    | _, _ => none
  | _, _ => none

theorem maxI64 : IntKind.i64.max = 9223372036854775807 := rfl

theorem eqGuard_ok {P : Program} {w : World} (op : BinOp) (t : TypeId) (x y : Operand) (a b : Value) (ha : a.oneCell' = true) (hi : a ≠ .nilIface) :
    (eqGuard op t x y a b).run P w = .ok () w := by
  unfold eqGuard
  by_cases h : (!(op matches .eql | .neq)) = true
  · cases op <;> cases a <;> simp_all [Value.oneCell']
  · cases op <;> cases a <;> cases b <;> simp_all [Value.oneCell']

theorem run_binOp_int {P : Program} {w : World} {k : IntKind} {op : BinOp} {xt : TypeId} {a b : Int} :
    (∀ t, cmpI op a b = some t → (binOp op xt (.int k a) (.int k b)).run P w = .ok (.bool t) w) ∧
    (∀ n, cmpI op a b = none → arI op k a b = some n → (binOp op xt (.int k a) (.int k b)).run P w = .ok (.int k n) w) := by
  constructor
  · intro t h
    cases op <;> simp only [cmpI, Option.some.injEq, reduceCtorEq] at h <;> subst h <;> simp [binOp, Op.intCmp]
  · intro n h0 h
    cases op <;> simp only [arI, Option.some.injEq, reduceCtorEq] at h <;> first | (subst h; simp [binOp, Op.intArith, Op.intBits]) | (simp [cmpI] at h0)

theorem run_dvI {P : Program} {w : World} {k : IntKind} {op : BinOp} {xt : TypeId} {a b n : Int} (h : dvI op k a b = some n) (hb : b ≠ 0) : (binOp op xt (.int k a) (.int k b)).run P w = .ok (.int k n) w := by
  cases op <;> simp only [dvI, Option.some.injEq, reduceCtorEq] at h <;> subst h <;> simp [binOp, Op.intDiv, hb]

theorem run_shI {P : Program} {w : World} {k k' : IntKind} {op : BinOp} {xt : TypeId} {a b n : Int} (h : shI op k a b = some n) (hb : 0 ≤ b) : (binOp op xt (.int k a) (.int k' b)).run P w = .ok (.int k n) w := by
  have : ¬ b < 0 := by omega
  cases op <;> simp only [shI, Option.some.injEq, reduceCtorEq] at h <;> subst h <;> simp [binOp, Op.shift, this]

theorem run_eqB {P : Program} {w : World} {t : TypeId} {x y : Value} {e b : Bool} {op : BinOp} (hb : eqB op e = some b)
    (he : ∀ d, (Op.equalIn (d + 1) t x y).run P w = .ok e w) (h1 : binOp .eql t x y = (do pure (.bool (← Op.equal t x y)))) (h2 : binOp .neq t x y = (do pure (.bool (!(← Op.equal t x y))))) :
    (binOp op t x y).run P w = .ok (.bool b) w := by
  have h := he 9999
  have h' : (Op.equal t x y).run P w = .ok e w := h
  cases op <;> simp only [eqB, Option.some.injEq, reduceCtorEq] at hb <;> subst hb
  · rw [h1]; simp only [Sem.run_bind, h', Result.andThen_ok, Sem.run_pure]
  · rw [h2]; simp only [Sem.run_bind, h', Result.andThen_ok, Sem.run_pure]

theorem xBin_ok {P : Program} {T : TypeId → Option TI} (hT : Tabs P T) {op : BinOp} {xt : TypeId} {x y : Operand} {σ σ' : St} {r : Option SV} {a : Act} {w : World} {ε : Env}
    (h : xBin T op xt x y σ = some (r, σ')) (htl : TRel ε.ρ σ.tl a.tmps) (hob : σ'.holds ε) :
    ReadOk ε σ r σ' (((do eqGuard op xt x y (a.eval x) (a.eval y); binOp op xt (a.eval x) (a.eval y)) >>= fun v => pure (Next.value v)).run P w) w := by
  have hg : ∀ (u v : Value), u.oneCell' = true → u ≠ .nilIface → ∀ z, (binOp op xt u v).run P w = .ok z w →
      a.eval x = u → a.eval y = v → ((do eqGuard op xt x y (a.eval x) (a.eval y); binOp op xt (a.eval x) (a.eval y)) >>= fun v => pure (Next.value v)).run P w = .ok (.value z) w := by
    intro u v hu hi z hz e1 e2
    simp only [Sem.run_bind, e1, e2, eqGuard_ok op xt x y u v hu hi, Result.andThen_ok, hz, Sem.run_pure]
  unfold xBin at h
  split at h
  · rename_i k m k' n hx hy
    have hex := evC_ok htl hx
    have hey := evC_ok htl hy
    split at h
    · rename_i z hz
      cases h
      have ho := hob _ (List.mem_append.2 (.inr (List.mem_singleton.2 rfl)))
      exact ⟨_, rfl, rfl, rfl, hg _ _ (by rfl) (by simp) _ (run_shI hz ho) hex hey⟩
    split at h
    · rename_i hk
      have := kEq_eq hk
      subst this
      split at h
      · rename_i t ht
        exact ask_ok h hob (hg _ _ (by rfl) (by simp) _ (run_binOp_int.1 t ht) hex hey)
      · rename_i hc
        split at h
        · rename_i z hz
          cases h
          exact ⟨_, rfl, rfl, rfl, hg _ _ (by rfl) (by simp) _ (run_binOp_int.2 z hc hz) hex hey⟩
        · split at h
          · rename_i z hz
            cases h
            have ho := hob _ (List.mem_append.2 (.inr (List.mem_singleton.2 rfl)))
            exact ⟨_, rfl, rfl, rfl, hg _ _ (by rfl) (by simp) _ (run_dvI hz ho) hex hey⟩
          · cases h
    · cases h
  · rename_i s t hx hy
    have hex := evC_ok htl hx
    have hey := evC_ok htl hy
    split at h
    · cases h
      have ho := hob _ (List.mem_append.2 (.inr (List.mem_singleton.2 rfl)))
      refine ⟨_, rfl, rfl, rfl, hg _ _ (by rfl) (by simp [C.real]) _ ?_ hex hey⟩
      have : ¬ (((s.size + t.size : Nat) : Int) > IntKind.i64.max) := by rw [maxI64]; omega
      simp only [C.real, binOp, Op.stringOp, if_neg this, Sem.run_pure]
      rfl
    · split at h
      · rename_i b hb
        refine ask_ok h hob (hg _ _ (by rfl) (by simp [C.real]) _ ?_ hex hey)
        cases op <;> simp only [cmpS, Option.some.injEq, reduceCtorEq] at hb <;> subst hb <;> simp [C.real, binOp, Op.stringOp]
      · cases h
  · rename_i hx hy
    have hex := evC_ok htl hx
    have hey := evC_ok htl hy
    split at h
    · rename_i t hi ht
      cases h
      obtain ⟨d, hd, _, p, q, v, rfl⟩ := (hT xt _ hi).und
      refine ⟨_, rfl, rfl, rfl, hg _ _ (by rfl) (by simp [C.real]) _ ?_ hex hey⟩
      exact run_eqB ht (fun d => by simp [C.real, Op.equalIn, run_underlying hd]) rfl rfl
    · cases h
  · rename_i hx hy
    have hex := evC_ok htl hx
    have hey := evC_ok htl hy
    split at h
    · rename_i t hi ht
      cases h
      obtain ⟨d, hd, _, p, q, v, rfl⟩ := (hT xt _ hi).und
      refine ⟨_, rfl, rfl, rfl, hg _ _ (by rfl) (by simp [C.real]) _ ?_ hex hey⟩
      exact run_eqB ht (fun d => by simp [C.real, Op.equalIn, run_underlying hd]) rfl rfl
    · cases h
  · rename_i hx hy
    have hex := evC_ok htl hx
    have hey := evC_ok htl hy
    split at h
    · rename_i t hi ht
      cases h
      obtain ⟨d, hd, _, p, q, v, rfl⟩ := (hT xt _ hi).und
      refine ⟨_, rfl, rfl, rfl, hg _ _ (by rfl) (by simp [C.real]) _ ?_ hex hey⟩
      exact run_eqB ht (fun d => by simp [C.real, Op.equalIn, run_underlying hd]) rfl rfl
    · cases h
  · rename_i hx hy
    have hex := evC_ok htl hx
    have hey := evC_ok htl hy
    split at h
    · rename_i t hi ht
      cases h
      obtain ⟨d, hd, _, e, rfl⟩ := (hT xt _ hi).und
      refine ⟨_, rfl, rfl, rfl, hg _ _ (by rfl) (by simp [C.real]) _ ?_ hex hey⟩
      exact run_eqB ht (fun d => by simp [C.real, Op.equalIn, run_underlying hd]) rfl rfl
    · cases h
  · rename_i hx hy
    have hex := evC_ok htl hx
    have hey := evC_ok htl hy
    split at h
    · rename_i t hi ht
      cases h
      obtain ⟨d, hd, _, e, rfl⟩ := (hT xt _ hi).und
      refine ⟨_, rfl, rfl, rfl, hg _ _ (by rfl) (by simp [C.real]) _ ?_ hex hey⟩
      exact run_eqB ht (fun d => by simp [C.real, Op.equalIn, run_underlying hd]) rfl rfl
    · cases h
  · rename_i hx hy
    have hex := evC_ok htl hx
    have hey := evC_ok htl hy
    split at h
    · rename_i t hi ht
      cases h
      obtain ⟨d, hd, _, e, rfl⟩ := (hT xt _ hi).und
      refine ⟨_, rfl, rfl, rfl, hg _ _ (by rfl) (by simp [C.real]) _ ?_ hex hey⟩
      exact run_eqB ht (fun d => by simp [C.real, Op.equalIn, run_underlying hd]) rfl rfl
    · cases h
  · rename_i s t hx hy
    have hex := evC_ok htl hx
    have hey := evC_ok htl hy
    split at h
    · rename_i z hi ht
      have hu := (hT xt _ hi).und
      obtain ⟨d, hd, _, hkd⟩ := hu
      simp only [Kd.fits] at hkd
      subst hkd
      refine ask_ok h hob (hg _ _ (by rfl) (by simp [C.real]) _ ?_ hex hey)
      exact run_eqB ht (fun d => by simp [C.real, Op.equalIn, run_underlying hd]) rfl rfl
    · cases h
  · cases h

end Go.Proofs.YtoihipolfdhhnaaGreatDoor
