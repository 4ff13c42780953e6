/-
  A symbolic executor of the model's code for one frame: values over named blocks, a run function, and the theorem that a run of it is a run of the model.
-/
import Derived.Calls
import Derived.Laws.Sem
import Derived.Laws.World
import Derived.KernelRfl
namespace Go.Proofs.YtoihipolfdhhnaaGreatDoor

/-- A captured pointer: of a named block, or of a real address. -/
inductive PP where
  | n (b o : Nat)
  | r (a : Addr)

/-- A value of one cell. -/
inductive C where
  | int (k : IntKind) (n : Int)
  | str (s : ByteArray)
  | bool (b : Bool)
  | p (b o : Nat)
  | rp (a : Addr)
  | nilp
  | f (fn : FuncId) (caps : List PP)
  | fv (fn : FuncId) (caps : Array Value)
  | nilf
  | sl (a : Option Addr) (n c : Nat)
  | nsl (b o n c : Nat)
  | ifc (t : TypeId) (x : Value)
  | nili
  | undef

inductive E where
  | c (x : C)
  | a (l : List C)

inductive SV where
  | e (x : E)
  | t (l : List E)

def PP.real (ρ : Nat → Nat) : PP → Value
  | .n b o => .pointer (some ⟨ρ b, o, none⟩)
  | .r a => .pointer (some a)

def C.real (ρ : Nat → Nat) : C → Value
  | .int k n => .int k n
  | .str s => .string s
  | .bool b => .bool b
  | .p b o => .pointer (some ⟨ρ b, o, none⟩)
  | .rp a => .pointer (some a)
  | .nilp => .pointer none
  | .f fn caps => .func (.func fn) #[] (caps.map (PP.real ρ)).toArray
  | .fv fn caps => .func (.func fn) #[] caps
  | .nilf => .nilFunc
  | .sl a n c => .slice a n c
  | .nsl b o n c => .slice (some ⟨ρ b, o, none⟩) n c
  | .ifc t x => .iface t x
  | .nili => .nilIface
  | .undef => Go.undef

def E.real (ρ : Nat → Nat) : E → Value
  | .c x => x.real ρ
  | .a l => .agg (l.map (C.real ρ)).toArray

def SV.real (ρ : Nat → Nat) : SV → Value
  | .e x => x.real ρ
  | .t l => .tuple (l.map (E.real ρ)).toArray

/-- May the value stand in a cell? -/
def C.cell : C → Bool
  | .undef => false
  | _ => true

def E.cells : E → List C
  | .c x => [x]
  | .a l => l

theorem C.real_oneCell (ρ : Nat → Nat) (x : C) (h : x.cell = true) : (x.real ρ).oneCell' = true := by
  cases x <;> first | rfl | (simp [C.cell] at h)

theorem Value.cells_of_oneCell {v : Value} (h : v.oneCell' = true) : v.cells = #[v] := by
  cases v <;> first | rfl | (simp [Value.oneCell'] at h)

theorem C.real_cells (ρ : Nat → Nat) (x : C) (h : x.cell = true) : (x.real ρ).cells = #[x.real ρ] :=
  Value.cells_of_oneCell (C.real_oneCell ρ x h)

theorem E.real_cells (ρ : Nat → Nat) (x : E) (h : x.cells.all C.cell = true) : (x.real ρ).cells = (x.cells.map (C.real ρ)).toArray := by
  cases x with
  | c x => simp only [E.cells, List.all_cons, List.all_nil, Bool.and_true] at h; simpa [E.real, E.cells] using C.real_cells ρ x h
  | a l => rfl

/-- A value of the model without pointers, as one of ours. -/
def C.ofV : Value → Option C
  | .int k n => some (.int k n)
  | .string s => some (.str s)
  | .bool b => some (.bool b)
  | .pointer none => some .nilp
  | .nilFunc => some .nilf
  | .nilIface => some .nili
  | .slice a n c => some (.sl a n c)
  | .func (.func fn) ⟨[]⟩ cap => some (.fv fn cap)
  | _ => none

theorem C.ofV_real {v : Value} {x : C} (h : C.ofV v = some x) (ρ : Nat → Nat) : x.real ρ = v := by
  unfold C.ofV at h
  split at h <;> first | (cases h; rfl) | (cases h)

def C.ofVs : List Value → Option (List C)
  | [] => some []
  | v :: l => match C.ofV v, C.ofVs l with
    | some x, some r => some (x :: r)
    | _, _ => none

theorem C.ofVs_real : ∀ {l : List Value} {r : List C}, C.ofVs l = some r → ∀ ρ, r.map (C.real ρ) = l
  | [], r, h, ρ => by simp only [C.ofVs, Option.some.injEq] at h; subst h; rfl
  | v :: l, r, h, ρ => by
    unfold C.ofVs at h
    split at h
    · rename_i x r' hx hr
      cases h
      simp only [List.map_cons, C.ofV_real hx ρ, C.ofVs_real hr ρ]
    · cases h

def E.ofV : Value → Option E
  | .agg cs => (C.ofVs cs.toList).map .a
  | v => (C.ofV v).map .c

theorem E.ofV_real {v : Value} {x : E} (h : E.ofV v = some x) (ρ : Nat → Nat) : x.real ρ = v := by
  unfold E.ofV at h
  split at h
  · rename_i cs
    cases hc : C.ofVs cs.toList with
    | none => simp [hc] at h
    | some r =>
      simp only [hc, Option.map_some, Option.some.injEq] at h
      subst h
      simp [E.real, C.ofVs_real hc ρ]
  · rename_i hv
    cases hc : C.ofV v with
    | none => simp [hc] at h
    | some r =>
      simp only [hc, Option.map_some, Option.some.injEq] at h
      subst h
      simpa [E.real] using C.ofV_real hc ρ

/-- A named block: its type, its cells. -/
structure NB where
  ty : TypeId
  cs : List C

/-- What is known of a type. -/
inductive Kd where
  | str
  | slice (e : TypeId)
  | func
  | ptr
  | int (k : IntKind)
  | bool
  | struct (fl : List (TypeId × Nat))
  | other

structure TI where
  size : Nat
  agg : Bool
  zero : List C
  kd : Kd

def Kd.fits (d : TypeDesc) : Kd → Prop
  | .str => d = .string
  | .slice e => d = .slice e
  | .func => ∃ p r v, d = .func p r v
  | .ptr => ∃ e, d = .pointer e
  | .int k => d = .int k
  | .bool => d = .bool
  | .struct fl => ∃ fs, d = .struct fs ∧ fs.toList.map (fun f => (f.type, f.offset)) = fl
  | .other => True

structure TIok (P : Program) (t : TypeId) (i : TI) : Prop where
  info : ∃ j, P.info? t = some j ∧ j.size = i.size ∧ ∃ z, j.zero = some z ∧ ∀ ρ, z.cells = (i.zero.map (C.real ρ)).toArray
  und : ∃ d, P.underlying t = some d ∧ (match d with | .struct _ | .array _ _ => true | _ => false) = i.agg ∧ i.kd.fits d

def Tabs (P : Program) (T : TypeId → Option TI) : Prop := ∀ t i, T t = some i → TIok P t i

/-- What an obligation may speak of. -/
structure Env where
  ρ : Nat → Nat
  n0 : Nat
  wb : World
  ro : Addr → Option Value := fun _ => none

structure St where
  tl : List (Nat × SV)
  bs : List NB
  orc : List Bool := []
  ext : List SV := []
  ob : List (Env → Prop) := []

def St.holds (σ : St) (ε : Env) : Prop := ∀ p ∈ σ.ob, p ε

def lk (d : Nat) : List (Nat × SV) → Option SV
  | [] => none
  | (x, v) :: l => if x = d then some v else lk d l

def St.put (σ : St) (dst : Option Nat) (v : SV) : St :=
  match dst with
  | some d => { σ with tl := (d, v) :: σ.tl }
  | none => σ

def ev (σ : St) : Operand → Option SV
  | .tmp t => lk t σ.tl
  | .const v => (E.ofV v).map .e
  | .func f => some (.e (.c (.f f [])))
  | .global g => some (.e (.c (.rp ⟨g, 0, none⟩)))

def evE (σ : St) (x : Operand) : Option E :=
  match ev σ x with
  | some (.e y) => some y
  | _ => none

def evC (σ : St) (x : Operand) : Option C :=
  match ev σ x with
  | some (.e (.c y)) => some y
  | _ => none

/-- The relation of the slots. -/
def TRel (ρ : Nat → Nat) (tl : List (Nat × SV)) (tmps : Array Value) : Prop :=
  ∀ d v, lk d tl = some v → tmps[d]? = some (v.real ρ)

/-- The relation of the memory: ρ names the blocks; below n0 they were there in wb. -/
structure Rel (ε : Env) (bs : List NB) (w : World) : Prop where
  cells : ∀ i b, bs[i]? = some b → w.heap[ε.ρ i]? = some (.cells (b.cs.map (C.real ε.ρ)).toArray b.ty (0, 0))
  inj : ∀ i j, i < bs.length → j < bs.length → ε.ρ i = ε.ρ j → i = j
  n0 : ε.n0 ≤ bs.length
  size : w.heap.size = ε.wb.heap.size + (bs.length - ε.n0)
  new : ∀ i, ε.n0 ≤ i → ε.ρ i = ε.wb.heap.size + (i - ε.n0)
  old : ∀ i, i < ε.n0 → ε.ρ i < ε.wb.heap.size
  keep : ∀ k, k < ε.wb.heap.size → (∀ i, i < ε.n0 → ε.ρ i ≠ k) → w.heap[k]? = ε.wb.heap[k]?
  ro : ∀ a v, ε.ro a = some v → w.cell? a = some v ∧ ∀ i, i < bs.length → ε.ρ i ≠ a.block
  os : w.os = ε.wb.os
  tape : w.tape = ε.wb.tape
  output : w.output = ε.wb.output

/-- What a reader needs of the memory. -/
structure Sees (ε : Env) (bs : List NB) (w : World) : Prop where
  cells : ∀ i b, bs[i]? = some b → w.heap[ε.ρ i]? = some (.cells (b.cs.map (C.real ε.ρ)).toArray b.ty (0, 0))
  ro : ∀ a v, ε.ro a = some v → w.cell? a = some v

theorem Rel.sees {ε : Env} {bs : List NB} {w : World} (h : Rel ε bs w) : Sees ε bs w := ⟨h.cells, fun a v hv => (h.ro a v hv).1⟩

theorem TRel.put {ρ : Nat → Nat} {tl : List (Nat × SV)} {tmps : Array Value} (h : TRel ρ tl tmps) (d : Nat) (hd : d < tmps.size) (v : SV) :
    TRel ρ ((d, v) :: tl) (tmps.setIfInBounds d (v.real ρ)) := by
  intro d' v' h'
  simp only [lk] at h'
  split at h'
  · rename_i e; subst e; cases h'; simp [hd]
  · rename_i e; rw [Array.getElem?_setIfInBounds_ne e]; exact h d' v' h'

theorem ev_ok {ρ : Nat → Nat} {σ : St} {a : Act} (h : TRel ρ σ.tl a.tmps) {x : Operand} {v : SV} (hx : ev σ x = some v) : a.eval x = v.real ρ := by
  cases x with
  | tmp t =>
    have := h t v hx
    simp [Act.eval, this]
  | const c =>
    simp only [ev] at hx
    cases hc : E.ofV c with
    | none => simp [hc] at hx
    | some e =>
      simp only [hc, Option.map_some, Option.some.injEq] at hx
      subst hx
      simp [Act.eval, SV.real, E.ofV_real hc ρ]
  | func f => simp only [ev, Option.some.injEq] at hx; subst hx; rfl
  | global g => simp only [ev, Option.some.injEq] at hx; subst hx; rfl

theorem evE_ok {ρ : Nat → Nat} {σ : St} {a : Act} (h : TRel ρ σ.tl a.tmps) {x : Operand} {v : E} (hx : evE σ x = some v) : a.eval x = v.real ρ := by
  unfold evE at hx
  split at hx
  · rename_i y hy; cases hx; simpa [SV.real] using ev_ok h hy
  · cases hx

theorem evC_ok {ρ : Nat → Nat} {σ : St} {a : Act} (h : TRel ρ σ.tl a.tmps) {x : Operand} {v : C} (hx : evC σ x = some v) : a.eval x = v.real ρ := by
  unfold evC at hx
  split at hx
  · rename_i y hy; cases hx; simpa [SV.real, E.real] using ev_ok h hy
  · cases hx

/-- A new block. -/
theorem Rel.alloc {ε : Env} {bs : List NB} {w : World} (h : Rel ε bs w) (b : NB) :
    Rel ε (bs ++ [b]) (w.alloc (.cells (b.cs.map (C.real ε.ρ)).toArray b.ty)) ∧ ε.ρ bs.length = w.heap.size := by
  have hn : ε.ρ bs.length = w.heap.size := by rw [h.new _ h.n0, h.size]
  refine ⟨⟨?_, ?_, by simp; have := h.n0; omega, by simp [h.size]; have := h.n0; omega, h.new, h.old, ?_, ?_, h.os, h.tape, h.output⟩, hn⟩
  · intro i c hc
    by_cases hi : i < bs.length
    · rw [List.getElem?_append_left hi] at hc
      have h1 := h.cells i c hc
      have : ε.ρ i < w.heap.size := by
        rcases Nat.lt_or_ge (ε.ρ i) w.heap.size with h2 | h2
        · exact h2
        · rw [Array.getElem?_eq_none h2] at h1; cases h1
      show (w.heap.push _)[ε.ρ i]? = _
      rw [Array.getElem?_push, if_neg (by omega)]; exact h1
    · rw [List.getElem?_append_right (by omega)] at hc
      have hi' : i = bs.length := by
        rcases Nat.lt_or_ge 0 (i - bs.length) with h2 | h2
        · rw [List.getElem?_eq_none (by simp; omega)] at hc; cases hc
        · omega
      subst hi'
      simp only [Nat.sub_self, List.getElem?_cons_zero, Option.some.injEq] at hc
      subst hc
      show (w.heap.push _)[_]? = _
      rw [hn, Array.getElem?_push, if_pos rfl]
  · intro i j hi hj e
    simp only [List.length_append, List.length_cons, List.length_nil, Nat.zero_add] at hi hj
    have hlt : ∀ k, k < bs.length → ε.ρ k < w.heap.size := by
      intro k hk
      have h1 := h.cells k bs[k] (List.getElem?_eq_getElem hk)
      rcases Nat.lt_or_ge (ε.ρ k) w.heap.size with h2 | h2
      · exact h2
      · rw [Array.getElem?_eq_none h2] at h1; cases h1
    by_cases hi' : i < bs.length <;> by_cases hj' : j < bs.length
    · exact h.inj i j hi' hj' e
    · have : j = bs.length := by omega
      subst this
      have := hlt i hi'
      omega
    · have : i = bs.length := by omega
      subst this
      have := hlt j hj'
      omega
    · omega
  · intro k hk hne
    show (w.heap.push _)[k]? = _
    rw [Array.getElem?_push, if_neg (by rw [h.size]; omega)]
    exact h.keep k hk hne
  · intro a v hv
    obtain ⟨h1, h2⟩ := h.ro a v hv
    have hlt := World.block_lt_of_cell? w a h1
    refine ⟨by rw [World.cell?_alloc_old _ _ _ (by omega)]; exact h1, fun i hi => ?_⟩
    simp only [List.length_append, List.length_cons, List.length_nil, Nat.zero_add] at hi
    by_cases hi' : i < bs.length
    · exact h2 i hi'
    · have : i = bs.length := by omega
      subst this
      omega

/-- A block that is written. -/
theorem Rel.set {ε : Env} {bs : List NB} {w : World} (h : Rel ε bs w) {b : Nat} {nb : NB} (hb : bs[b]? = some nb) (cs : List C) :
    Rel ε (bs.set b ⟨nb.ty, cs⟩) { w with heap := w.heap.setIfInBounds (ε.ρ b) (.cells (cs.map (C.real ε.ρ)).toArray nb.ty (0, 0)) } := by
  have hbl : b < bs.length := (List.getElem?_eq_some_iff.1 hb).1
  have hlt : ε.ρ b < w.heap.size := by
    have h1 := h.cells b nb hb
    rcases Nat.lt_or_ge (ε.ρ b) w.heap.size with h2 | h2
    · exact h2
    · rw [Array.getElem?_eq_none h2] at h1; cases h1
  refine ⟨?_, by simpa using h.inj, by simpa using h.n0, by simpa using h.size, h.new, h.old, ?_, ?_, h.os, h.tape, h.output⟩
  · intro i c hc
    show (w.heap.setIfInBounds (ε.ρ b) _)[ε.ρ i]? = _
    by_cases hi : i = b
    · subst hi
      rw [List.getElem?_set_self hbl] at hc
      cases hc
      rw [Array.getElem?_setIfInBounds_self_of_lt hlt]
    · rw [List.getElem?_set_ne (by omega)] at hc
      have hil : i < bs.length := (List.getElem?_eq_some_iff.1 hc).1
      rw [Array.getElem?_setIfInBounds_ne (fun e => hi (h.inj i b hil hbl e.symm))]
      exact h.cells i c hc
  · intro k hk hne
    show (w.heap.setIfInBounds (ε.ρ b) _)[k]? = _
    by_cases hb0 : b < ε.n0
    · rw [Array.getElem?_setIfInBounds_ne (hne b hb0)]; exact h.keep k hk hne
    · rw [Array.getElem?_setIfInBounds_ne (by rw [h.new b (by omega)]; omega)]; exact h.keep k hk hne
  · intro a v hv
    obtain ⟨h1, h2⟩ := h.ro a v hv
    refine ⟨?_, by simpa using h2⟩
    have hne := h2 b hbl
    have : (w.heap.setIfInBounds (ε.ρ b) (.cells (cs.map (C.real ε.ρ)).toArray nb.ty (0, 0)))[a.block]? = w.heap[a.block]? := Array.getElem?_setIfInBounds_ne hne
    simp only [World.cell?, this]
    exact h1

end Go.Proofs.YtoihipolfdhhnaaGreatDoor
